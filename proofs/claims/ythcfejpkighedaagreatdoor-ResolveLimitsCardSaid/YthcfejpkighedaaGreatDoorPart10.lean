/- Part10: LChk2, LLim, LLim2, LLim3. -/
import Derived.Test.YthcfejpkighedaaGreatDoorPart9
set_option linter.unusedVariables false
set_option linter.unusedSectionVars false
set_option linter.unusedSimpArgs false
namespace Go.Lift
open Go.RowKit Go.IntWalk
noncomputable section
variable [Sl]
set_option linter.unusedSectionVars false
set_option linter.unusedVariables false
set_option linter.unusedSimpArgs false
set_option maxRecDepth 10000
section
variable {β : Type}
def Q59 (nz : Int) (p : zqe) : Int := cond (!ixI p.2.1 nz) 3 (cond (!decide (Q4k p.2.2.1 = 0)) 8 (cond (!Q91 p.2.2.2.1) 1 (cond (!Q91 p.2.2.2.2.1) 1 0)))
theorem Qii (c : zqg) (p : zqe) (k : Int → Option β) : zqc6 c p k = k (Q59 (c.1.length : Int) p) := by
 unfold zqc6
 rw [Q2]
 unfold zqc5 Q59
 refine (r_ix _ _ _).trans ?_
 cases ixI p.2.1 (c.1.length : Int) with
 | false => rfl
 | true =>
  refine (Qi2 _ _).trans ?_
  show cond (!decide (Q4k p.2.2.1 = 0)) _ _ = k (cond (!decide (Q4k p.2.2.1 = 0)) _ _)
  cases decide (Q4k p.2.2.1 = 0) with
  | false => rfl
  | true =>
   refine (Qgc _ _).trans ?_
   cases Q91 p.2.2.2.1 with
   | false => rfl
   | true =>
    refine (Qgc _ _).trans ?_
    cases Q91 p.2.2.2.2.1 <;> rfl
abbrev Ed := Int × (Int × (Int × (Int × Int)))
def e1V (b : Bool) (x : Ed) : Int := cond b 1 (cond (decide (x.2.2.2.2 ≤ x.2.2.2.1)) 6 0)
def e2V (b : Bool) (x : Ed) : Int := cond b 4 (e1V (decide (x.2.2.2.1 < 0) || (decide (x.2.2.2.2 < 0) || !dayI (IntKind.i64.wrap (Int.tdiv x.2.2.2.2 86400)))) x)
def e3V (b : Bool) (x : Ed) : Int := cond b 1 (e2V (decide (x.1 = 2) && decide (x.2.1 = x.2.2.1)) x)
def e4V (b : Bool) (x : Ed) : Int := cond b 3 (e3V ((!decide (x.1 = 2)) && !decide (x.2.2.1 = 0)) x)
def Q6i (np : Int) (x : Ed) : Int :=
 cond (!inI x.1 0 2) 1 (e4V (((!ixI x.2.1 np) && !(decide (x.1 = 1) && decide (x.2.1 = -1))) || (decide (x.1 = 2) && !ixI x.2.2.1 np)) x)
theorem r_e1 (b : Bool) (x : Ed) (k : Int → Option β) : zqeo (fun t => k t) (fun _ => k 0) b x = k (e1V b x) := by
 unfold zqeo
 rw [Q2]
 unfold zqen e1V
 cases b with
 | true => rfl
 | false =>
  show cond (decide (x.2.2.2.2 ≤ x.2.2.2.1)) _ _ = k (cond (decide (x.2.2.2.2 ≤ x.2.2.2.1)) _ _)
  cases decide (x.2.2.2.2 ≤ x.2.2.2.1) <;> rfl
theorem r_e2 (b : Bool) (x : Ed) (k : Int → Option β) : zqer (fun t => k t) (fun _ => k 0) b x = k (e2V b x) := by
 unfold zqer
 rw [Q2]
 unfold zqeq e2V
 cases b with
 | true => rfl
 | false =>
  show cond (decide (x.2.2.2.1 < 0)) _ _ = k (e1V (decide (x.2.2.2.1 < 0) || _) x)
  cases decide (x.2.2.2.1 < 0) with
  | true => exact r_e1 _ _ _
  | false =>
   show cond (decide (x.2.2.2.2 < 0)) _ _ = k (e1V (decide (x.2.2.2.2 < 0) || _) x)
   cases decide (x.2.2.2.2 < 0) with
   | true => exact r_e1 _ _ _
   | false => exact (Qh3 _ _).trans (r_e1 _ _ _)
theorem r_e3 (b : Bool) (x : Ed) (k : Int → Option β) : zqeu (fun t => k t) (fun _ => k 0) b x = k (e3V b x) := by
 unfold zqeu
 rw [Q2]
 unfold zqet e3V
 cases b with
 | true => rfl
 | false =>
  show cond (decide (x.1 = 2)) _ _ = k (e2V (decide (x.1 = 2) && _) x)
  cases decide (x.1 = 2) <;> exact r_e2 _ _ _
theorem r_e4 (b : Bool) (x : Ed) (k : Int → Option β) : zqex (fun t => k t) (fun _ => k 0) b x = k (e4V b x) := by
 unfold zqex
 rw [Q2]
 unfold zqew e4V
 cases b with
 | true => rfl
 | false =>
  show cond (!decide (x.1 = 2)) _ _ = k (e3V ((!decide (x.1 = 2)) && _) x)
  cases decide (x.1 = 2) <;> exact r_e3 _ _ _
theorem Qjs (c : zqg) (x : Ed) (k : Int → Option β) : zqf3 c x k = k (Q6i (c.2.1.length : Int) x) := by
 have h5 : ∀ b : Bool, zqf0 (fun t14 x2 => zqex (fun t => k t) (fun _ => k 0) t14 x2) (c.2.1.length : Int) b x = k (e4V (b || (decide (x.1 = 2) && !ixI x.2.2.1 (c.2.1.length : Int))) x) := by
  intro b
  unfold zqf0
  rw [Q2]
  unfold zqez
  cases b with
  | true => exact r_e4 _ _ _
  | false =>
   show cond (decide (x.1 = 2)) _ _ = k (e4V (decide (x.1 = 2) && _) x)
   cases decide (x.1 = 2) with
   | false => exact r_e4 _ _ _
   | true => exact (r_ix _ _ _).trans (r_e4 _ _ _)
 unfold zqf3
 rw [Q2]
 unfold zqf2 Q6i
 refine (r_in _ _ _ _).trans ?_
 cases inI x.1 0 2 with
 | false => rfl
 | true =>
  refine (r_ix _ _ _).trans ?_
  show cond (!ixI x.2.1 (c.2.1.length : Int)) _ _ = k (e4V (((!ixI x.2.1 (c.2.1.length : Int)) && _) || _) x)
  cases ixI x.2.1 (c.2.1.length : Int) with
  | true => exact h5 _
  | false =>
   show cond (decide (x.1 = 1)) _ _ = k (e4V ((!(decide (x.1 = 1) && _)) || _) x)
   cases decide (x.1 = 1) <;> exact h5 _
def l1V (b : Bool) (l : zq2) : Int := cond b 3 (cond (decide (l.2.2.2.2.2.2.2.2 = 0)) (cond (!decide (l.2.2.2.2.2.2.2.1 = 0)) 1 0) 0)
def l2V (np nc : Int) (b : Bool) (l : zq2) : Int :=
 cond b 1 (cond (decide ((l.2.2.2.2.2.1.length : Int) = 0)) 7 (cond (decide (12 < (l.2.2.2.2.2.1.length : Int))) 5 (cond (!l.2.2.2.2.2.1.all fun m => ixI m np) 3
  (cond (!decide (Q4k l.2.2.2.2.2.2.1 = 0)) 8 (cond (!inI l.2.2.2.2.2.2.2.2 0 2) 1 (l1V ((!decide (l.2.2.2.2.2.2.2.2 = 0)) && !ixI l.2.2.2.2.2.2.2.1 nc) l))))))
def Q1d (nz np nc : Int) (l : zq2) : Int :=
 cond (!ixI l.2.1 nz) 3 (l2V np nc (decide (l.2.2.1.1 < 1) || ((!dayI l.2.2.1.1) || ((!inI l.2.2.1.2 0 86399) || ((!inI l.2.2.2.1 0 2) || !inI l.2.2.2.2.1 1 400)))) l)
theorem r_l1 (b : Bool) (l : zq2) (k : Int → Option β) : zqnk (fun t => k t) (fun _ => k 0) b l = k (l1V b l) := by
 unfold zqnk
 rw [Q2]
 unfold zqnj l1V
 cases b with
 | true => rfl
 | false =>
  show cond (decide (l.2.2.2.2.2.2.2.2 = 0)) (cond (!decide (l.2.2.2.2.2.2.2.1 = 0)) _ _) _ = k (cond (decide (l.2.2.2.2.2.2.2.2 = 0)) (cond (!decide (l.2.2.2.2.2.2.2.1 = 0)) _ _) _)
  cases decide (l.2.2.2.2.2.2.2.2 = 0) <;> cases decide (l.2.2.2.2.2.2.2.1 = 0) <;> rfl
theorem Qi3 (s : List Int) (hs : s.length ≤ 1000000) (c : zqg) (k : Bool → zqg → Option β) :
  zqm4 s c k = k (!s.all fun m => ixI m (c.2.1.length : Int)) c := by
 unfold zqm4
 rw [Q2]
 unfold zqm3 zqkp
 rw [Q2]
 unfold zqko zqkm
 rw [Q2]
 refine (Q7u (fun m i => zqkk m (fun t b => k (decide ((0 : Int) ≤ t)) b) (fun b => k (decide ((0 : Int) ≤ -1)) b) s (s.length : Int) i c) (fun m => ixI m (c.2.1.length : Int)) (k true c) (k false c) 0 s fuel (Q11 (by omega)) (fun m i hi => ?_) (fun m => ?_)).trans ?_
 ·simp only [zqkl, zqkj]
  refine (Qf (by omega)).trans ?_
  refine (Q2m (by omega)).trans ?_
  rw [Int.toNat_natCast, i64_in ((i : Int) + 1) (by omega)]
  unfold zq4b
  rw [Q2]
  unfold zq4a
  refine (r_ix _ _ _).trans ?_
  cases ixI (s.getD i 0) (c.2.1.length : Int) with
  | true => rfl
  | false =>
   show k (decide ((0 : Int) ≤ i)) c = k true c
   rw [decide_eq_true (by omega : (0 : Int) ≤ i)]
 ·simp only [zqkl, zqkj]
  exact Qk (by omega)
 ·cases s.all fun m => ixI m (c.2.1.length : Int) <;> rfl
theorem r_l2 (b : Bool) (c : zqg) (l : zq2) (k : Int → Option β) : zqnn (fun t => k t) (fun _ => k 0) b c l = k (l2V (c.2.1.length : Int) (c.2.2.1.length : Int) b l) := by
 unfold zqnn
 rw [Q2]
 unfold zqnm l2V
 cases b with
 | true => rfl
 | false =>
  show cond (decide ((l.2.2.2.2.2.1.length : Int) = 0)) _ _ = k (cond (decide ((l.2.2.2.2.2.1.length : Int) = 0)) _ _)
  cases decide ((l.2.2.2.2.2.1.length : Int) = 0) with
  | true => rfl
  | false =>
   show cond (decide ((12 : Int) < (l.2.2.2.2.2.1.length : Int))) _ _ = k (cond (decide ((12 : Int) < (l.2.2.2.2.2.1.length : Int))) _ _)
   by_cases h : (12 : Int) < (l.2.2.2.2.2.1.length : Int)
   ·rw [decide_eq_true h]; rfl
   ·rw [decide_eq_false h]
    refine (Qi3 _ (by omega) _ _).trans ?_
    cases l.2.2.2.2.2.1.all fun m => ixI m (c.2.1.length : Int) with
    | false => rfl
    | true =>
     refine (Qi2 _ _).trans ?_
     show cond (!decide (Q4k l.2.2.2.2.2.2.1 = 0)) _ _ = k (cond (!decide (Q4k l.2.2.2.2.2.2.1 = 0)) _ _)
     cases decide (Q4k l.2.2.2.2.2.2.1 = 0) with
     | false => rfl
     | true =>
      refine (r_in _ _ _ _).trans ?_
      cases inI l.2.2.2.2.2.2.2.2 0 2 with
      | false => rfl
      | true =>
       show cond (!decide (l.2.2.2.2.2.2.2.2 = 0)) _ _ = k (l1V ((!decide (l.2.2.2.2.2.2.2.2 = 0)) && _) l)
       cases decide (l.2.2.2.2.2.2.2.2 = 0) with
       | true => exact r_l1 _ _ _
       | false => exact (r_ix _ _ _).trans (r_l1 _ _ _)
theorem Qjb (c : zqg) (l : zq2) (k : Int → Option β) : zqnq c l k = k (Q1d (c.1.length : Int) (c.2.1.length : Int) (c.2.2.1.length : Int) l) := by
 unfold zqnq
 rw [Q2]
 unfold zqnp Q1d
 refine (r_ix _ _ _).trans ?_
 cases ixI l.2.1 (c.1.length : Int) with
 | false => rfl
 | true =>
  show cond (decide (l.2.2.1.1 < 1)) _ _ = k (l2V _ _ (decide (l.2.2.1.1 < 1) || _) l)
  cases decide (l.2.2.1.1 < 1) with
  | true => exact r_l2 _ _ _ _
  | false =>
   refine (Qh3 _ _).trans ?_
   show cond (!dayI l.2.2.1.1) _ _ = k (l2V _ _ ((!dayI l.2.2.1.1) || _) l)
   cases dayI l.2.2.1.1 with
   | false => exact r_l2 _ _ _ _
   | true =>
    refine (r_in _ _ _ _).trans ?_
    show cond (!inI l.2.2.1.2 0 86399) _ _ = k (l2V _ _ ((!inI l.2.2.1.2 0 86399) || _) l)
    cases inI l.2.2.1.2 0 86399 with
    | false => exact r_l2 _ _ _ _
    | true =>
     refine (r_in _ _ _ _).trans ?_
     show cond (!inI l.2.2.2.1 0 2) _ _ = k (l2V _ _ ((!inI l.2.2.2.1 0 2) || _) l)
     cases inI l.2.2.2.1 0 2 with
     | false => exact r_l2 _ _ _ _
     | true => exact (r_in _ _ _ _).trans (r_l2 _ _ _ _)
theorem Qjt (s : List Int) (hs : s.length ≤ 1000000) (k : Bool → Option β) :
  zqm0 s k = k (!s.all dayI) := by
 unfold zqm0
 rw [Q2]
 unfold zqlz zqkb
 rw [Q2]
 unfold zqka zqk8
 rw [Q2]
 refine (Q7u (fun m i => zqk6 m (fun t => k (decide ((0 : Int) ≤ t))) (fun _ => k (decide ((0 : Int) ≤ -1))) s (s.length : Int) i) dayI (k true) (k false) 0 s fuel (Q11 (by omega)) (fun m i hi => ?_) (fun m => ?_)).trans ?_
 ·simp only [zqk7, zqk5]
  refine (Qf (by omega)).trans ?_
  refine (Q2m (by omega)).trans ?_
  rw [Int.toNat_natCast, i64_in ((i : Int) + 1) (by omega)]
  unfold zqi6
  rw [Q2]
  unfold zqi5
  refine (Qh3 _ _).trans ?_
  cases dayI (s.getD i 0) with
  | true => rfl
  | false =>
   show k (decide ((0 : Int) ≤ i)) = k true
   rw [decide_eq_true (by omega : (0 : Int) ≤ i)]
 ·simp only [zqk7, zqk5]
  exact Qk (by omega)
 ·cases s.all dayI <;> rfl
def ascG (l : List Int) (i : Nat) (d : Int) (_ : Unit) : Int ⊕ Unit := cond (decide (0 < (i : Int)) && decide (d ≤ l.getD (i - 1) 0)) (.inl 6) (.inr ())
def calV (nz : Int) (x : zq0) : Int :=
 cond (!ixI x.2.1 nz) 3 (cond (decide (64 < (x.2.2.length : Int))) 5 (cond (!x.2.2.all dayI) 1 (errV (walk (ascG x.2.2) x.2.2 0 ()))))
theorem Qh5 (c : zqg) (x : zq0) (k : Int → Option β) : zqmi c x k = k (calV (c.1.length : Int) x) := by
 unfold zqmi
 rw [Q2]
 unfold zqmh calV
 refine (r_ix _ _ _).trans ?_
 cases ixI x.2.1 (c.1.length : Int) with
 | false => rfl
 | true =>
  show cond (decide ((64 : Int) < (x.2.2.length : Int))) _ _ = k (cond (decide ((64 : Int) < (x.2.2.length : Int))) _ _)
  by_cases h : (64 : Int) < (x.2.2.length : Int)
  ·rw [decide_eq_true h]; rfl
  ·rw [decide_eq_false h]
   refine (Qjt _ (by omega) _).trans ?_
   cases x.2.2.all dayI with
   | false => rfl
   | true =>
    show zqmf (fun t => k t) (fun _ => k 0) (x.2.2.length : Int) 0 x = k (errV (walk (ascG x.2.2) x.2.2 0 ()))
    unfold zqmf
    rw [Q2]
    refine (Q1w (fun m i (_ : Unit) => zqmd m (fun t => k t) (fun _ => k 0) (x.2.2.length : Int) i x) (ascG x.2.2) (fun e => k e) (fun _ => k 0) 0 x.2.2 () fuel (Q11 (by omega)) (fun m i _ hi => ?_) (fun m _ => ?_)).trans (Q3o k _)
    ·simp only [zqme, zqmc]
     refine (Qf (by omega)).trans ?_
     unfold ascG
     rw [i64_in ((i : Int) + 1) (by omega)]
     by_cases h0 : (0 : Int) < i
     ·refine (Qf h0).trans ?_
      refine (Q2m (by omega)).trans ?_
      rw [i64_in ((i : Int) - 1) (by omega)]
      refine (Q2m (by omega)).trans ?_
      rw [show ((i : Int) - 1).toNat = i - 1 by omega, Int.toNat_natCast, decide_eq_true h0]
      cases decide (x.2.2.getD i 0 ≤ x.2.2.getD (i - 1) 0) <;> rfl
     ·refine (Qk h0).trans ?_
      rw [decide_eq_false h0]
      rfl
    ·simp only [zqme, zqmc]
     exact Qk (by omega)
def Q2s {α : Type} (of : α → List UInt8) (chk : α → Int) (_ : Nat) (x : α) (l : List (List UInt8)) : Int ⊕ List (List UInt8) :=
 cond (decide (Q1p (of x) l = 0)) (cond (decide (chk x = 0)) (.inr (l ++ [of x])) (.inl (chk x))) (.inl (Q1p (of x) l))
def Q10 {α : Type} (of : α → List UInt8) (chk : α → Int) (xs : List α) : Int := errV (walk (Q2s of chk) xs 0 [])
theorem Qf3 {α : Type} {xs : List α} {i : Nat} {d : α} (h : i < xs.length) : xs.getD i d ∈ xs := by
 rw [List.getD_eq_getElem?_getD, List.getElem?_eq_getElem h]
 exact List.getElem_mem h
theorem Qbw {α : Type} (E : Int → Option β) (K : List (List UInt8) → Option β) (of : α → List UInt8) (chk : α → Int) (i : Nat) (x : α) (l : List (List UInt8)) :
  sumK E K (Q2s of chk i x l) = cond (!decide (Q1p (of x) l = 0)) (E (Q1p (of x) l)) (cond (!decide (chk x = 0)) (E (chk x)) (K (l ++ [of x]))) := by
 unfold Q2s
 cases decide (Q1p (of x) l = 0) <;> cases decide (chk x = 0) <;> rfl
theorem Qbx {s : List UInt8} {l : List (List UInt8)} {a : Option β} {f : List (List UInt8 × Bool) → Option β} :
  cond (!decide (Q1p s l = 0)) a (f (sn (cond (decide (Q1p s l = 0)) (l ++ [s]) l))) = cond (!decide (Q1p s l = 0)) a (f (sn (l ++ [s]))) := by
 cases decide (Q1p s l = 0) <;> rfl
theorem Qjc (xs : List zqa) (zv : zqa → Int) (hz : ∀ z ∈ xs, ∀ k : Int → Option β, zqpg z k = k (zv z)) (hs : xs.length ≤ 1000000) (k : Int → Option β) :
  zqpu xs k = k (Q10 (·.1) zv xs) := by
 unfold zqpu
 rw [Q2]
 unfold zqpt zqpr
 rw [Q2]
 refine (Q1w (fun m i l => zqpp m (fun t => k t) (fun _ => k 0) xs (xs.length : Int) i (sn l)) (Q2s (·.1) zv) (fun e => k e) (fun _ => k 0) ([], 0, []) xs [] fuel (Q11 (by omega)) (fun m i l hi => ?_) (fun m _ => ?_)).trans (Q3o k _)
 ·simp only [zqpq, zqpo]
  refine (Qf (by omega)).trans ?_
  refine (Q2m (by omega)).trans ?_
  rw [Int.toNat_natCast, i64_in ((i : Int) + 1) (by omega), Qbw]
  generalize hx : xs.getD i ([], 0, []) = x
  have hm : x ∈ xs := hx ▸ Qf3 hi
  unfold zq1a
  rw [Q2]
  unfold zq19
  refine (Q92 _ _ _).trans ?_
  rw [hz x hm]
  exact Qbx (f := fun t => cond (!decide (zv x = 0)) (k (zv x)) (zqpp m (fun t => k t) (fun _ => k 0) xs (xs.length : Int) ((i : Int) + 1) t))
 ·simp only [zqpq, zqpo]
  exact Qk (by omega)
theorem Qju (c : zqg) (xs : List zq0) (hs : xs.length ≤ 1000000) (k : Int → zqg → Option β) :
  zqq8 xs c k = k (Q10 (·.1) (calV (c.1.length : Int)) xs) c := by
 unfold zqq8
 rw [Q2]
 unfold zqq7 zqq5
 rw [Q2]
 refine (Q1w (fun m i l => zqq3 m (fun t b => k t b) (fun b => k 0 b) xs (xs.length : Int) i c (sn l)) (Q2s (·.1) (calV (c.1.length : Int))) (fun e => k e c) (fun _ => k 0 c) ([], 0, []) xs [] fuel (Q11 (by omega)) (fun m i l hi => ?_) (fun m _ => ?_)).trans (Q3o (fun e => k e c) _)
 ·simp only [zqq4, zqq2]
  refine (Qf (by omega)).trans ?_
  refine (Q2m (by omega)).trans ?_
  rw [Int.toNat_natCast, i64_in ((i : Int) + 1) (by omega), Qbw]
  generalize hx : xs.getD i ([], 0, []) = x
  unfold zq1e zqnu
  rw [Q2, Q2]
  unfold zq1d zqnt
  refine (Q92 _ _ _).trans ?_
  refine (congrArg (cond _ _) (Qh5 _ _ _)).trans ?_
  exact Qbx (f := fun t => cond (!decide (calV (c.1.length : Int) x = 0)) (k (calV (c.1.length : Int) x) c) (zqq3 m (fun t b => k t b) (fun b => k 0 b) xs (xs.length : Int) ((i : Int) + 1) c t))
 ·simp only [zqq4, zqq2]
  exact Qk (by omega)
theorem Qij (c : zqg) (xs : List zq2) (hs : xs.length ≤ 1000000) (k : Int → zqg → Option β) :
  zqoc xs c k = k (Q10 (·.1) (Q1d (c.1.length : Int) (c.2.1.length : Int) (c.2.2.1.length : Int)) xs) c := by
 unfold zqoc
 rw [Q2]
 unfold zqob zqo9
 rw [Q2]
 refine (Q1w (fun m i l => zqo7 m (fun t b => k t b) (fun b => k 0 b) xs (xs.length : Int) i c (sn l)) (Q2s (·.1) (Q1d (c.1.length : Int) (c.2.1.length : Int) (c.2.2.1.length : Int))) (fun e => k e c) (fun _ => k 0 c) ([], 0, (0, 0), 0, 0, [], [], 0, 0) xs [] fuel (Q11 (by omega)) (fun m i l hi => ?_) (fun m _ => ?_)).trans (Q3o (fun e => k e c) _)
 ·simp only [zqo8, zqo6]
  refine (Qf (by omega)).trans ?_
  refine (Q2m (by omega)).trans ?_
  rw [Int.toNat_natCast, i64_in ((i : Int) + 1) (by omega), Qbw]
  generalize hx : xs.getD i ([], 0, (0, 0), 0, 0, [], [], 0, 0) = x
  unfold zq3n zqny
  rw [Q2, Q2]
  unfold zq3m zqnx
  refine (Q92 _ _ _).trans ?_
  refine (congrArg (cond _ _) (Qjb _ _ _)).trans ?_
  exact Qbx (f := fun t => cond (!decide (Q1d (c.1.length : Int) (c.2.1.length : Int) (c.2.2.1.length : Int) x = 0)) (k (Q1d (c.1.length : Int) (c.2.1.length : Int) (c.2.2.1.length : Int) x) c) (zqo7 m (fun t b => k t b) (fun b => k 0 b) xs (xs.length : Int) ((i : Int) + 1) c t))
 ·simp only [zqo8, zqo6]
  exact Qk (by omega)
def Q7w (np : Int) (_ : Nat) (x : Ed) (_ : Unit) : Int ⊕ Unit := cond (decide (Q6i np x = 0)) (.inr ()) (.inl (Q6i np x))
def Q2a (nz np nc : Int) (x : zq4) : Int :=
 cond (decide (6 < (x.2.1.length : Int))) 5 (cond (decide (48 < (x.2.2.length : Int))) 5
  (cond (decide (Q10 (·.1) (Q1d nz np nc) x.2.1 = 0)) (errV (walk (Q7w np) x.2.2 0 ())) (Q10 (·.1) (Q1d nz np nc) x.2.1)))
theorem Qh6 (c : zqg) (x : zq4) (k : Int → Option β) : zqoq c x k = k (Q2a (c.1.length : Int) (c.2.1.length : Int) (c.2.2.1.length : Int) x) := by
 unfold zqoq
 rw [Q2]
 unfold zqop Q2a
 by_cases h1 : (6 : Int) < (x.2.1.length : Int)
 ·refine (Qf h1).trans ?_
  rw [decide_eq_true h1]; rfl
 refine (Qk h1).trans ?_
 rw [decide_eq_false h1]
 by_cases h2 : (48 : Int) < (x.2.2.length : Int)
 ·refine (Qf h2).trans ?_
  rw [decide_eq_true h2]; rfl
 refine (Qk h2).trans ?_
 rw [decide_eq_false h2]
 refine (Qij c _ (by omega) _).trans ?_
 show cond (!decide (Q10 _ (Q1d _ _ _) x.2.1 = 0)) _ _ = k (cond (decide (Q10 _ (Q1d _ _ _) x.2.1 = 0)) _ _)
 cases decide (Q10 (·.1) (Q1d (c.1.length : Int) (c.2.1.length : Int) (c.2.2.1.length : Int)) x.2.1 = 0) with
 | false => rfl
 | true =>
  show zqon (fun t => k t) (fun _ => k 0) x.2.2 (x.2.2.length : Int) 0 c = k (errV (walk (Q7w (c.2.1.length : Int)) x.2.2 0 ()))
  unfold zqon
  rw [Q2]
  refine (Q1w (fun m i (_ : Unit) => zqol m (fun t => k t) (fun _ => k 0) x.2.2 (x.2.2.length : Int) i c) (Q7w (c.2.1.length : Int)) (fun e => k e) (fun _ => k 0) (0, 0, 0, 0, 0) x.2.2 () fuel (Q11 (by omega)) (fun m i _ hi => ?_) (fun m _ => ?_)).trans (Q3o k _)
  ·simp only [zqom, zqok]
   refine (Qf (by omega)).trans ?_
   refine (Q2m (by omega)).trans ?_
   rw [Int.toNat_natCast, i64_in ((i : Int) + 1) (by omega)]
   refine (Qjs _ _ _).trans ?_
   unfold Q7w
   cases decide (Q6i (c.2.1.length : Int) (x.2.2.getD i (0, 0, 0, 0, 0)) = 0) <;> rfl
  ·simp only [zqom, zqok]
   exact Qk (by omega)
theorem Qfv (c : zqg) (xs : List zq4) (hs : xs.length ≤ 1000000) (k : Int → zqg → Option β) :
  zqqm xs c k = k (Q10 (·.1) (Q2a (c.1.length : Int) (c.2.1.length : Int) (c.2.2.1.length : Int)) xs) c := by
 unfold zqqm
 rw [Q2]
 unfold zqql zqqj
 rw [Q2]
 refine (Q1w (fun m i l => zqqh m (fun t b => k t b) (fun b => k 0 b) xs (xs.length : Int) i c (sn l)) (Q2s (·.1) (Q2a (c.1.length : Int) (c.2.1.length : Int) (c.2.2.1.length : Int))) (fun e => k e c) (fun _ => k 0 c) ([], [], []) xs [] fuel (Q11 (by omega)) (fun m i l hi => ?_) (fun m _ => ?_)).trans (Q3o (fun e => k e c) _)
 ·simp only [zqqi, zqqg]
  refine (Qf (by omega)).trans ?_
  refine (Q2m (by omega)).trans ?_
  rw [Int.toNat_natCast, i64_in ((i : Int) + 1) (by omega), Qbw]
  generalize hx : xs.getD i ([], [], []) = x
  unfold zq1i zqou
  rw [Q2, Q2]
  unfold zq1h zqot
  refine (Q92 _ _ _).trans ?_
  refine (congrArg (cond _ _) (Qh6 _ _ _)).trans ?_
  exact Qbx (f := fun t => cond (!decide (Q2a (c.1.length : Int) (c.2.1.length : Int) (c.2.2.1.length : Int) x = 0)) (k (Q2a (c.1.length : Int) (c.2.1.length : Int) (c.2.2.1.length : Int) x) c) (zqqh m (fun t b => k t b) (fun b => k 0 b) xs (xs.length : Int) ((i : Int) + 1) c t))
 ·simp only [zqqi, zqqg]
  exact Qk (by omega)
def Q9p : List UInt8 := [110, 111, 98, 111, 100, 121]
def Q4q (nz : Int) (p : zqe) (l : List (List UInt8)) : Int := cond (decide (p.1 = Q9p)) 2 (Q1p p.1 l)
def Q5a (nz : Int) (_ : Nat) (p : zqe) (l : List (List UInt8)) : Int ⊕ List (List UInt8) :=
 cond (decide (Q4q nz p l = 0)) (cond (decide (Q59 nz p = 0)) (.inr (l ++ [p.1])) (.inl (Q59 nz p))) (.inl (Q4q nz p l))
def Q5b (nz : Int) (xs : List zqe) : Int := errV (walk (Q5a nz) xs 0 [])
def orV (a b : Int) : Int := cond (decide (a = 0)) b a
def Q2t (zv : zqa → Int) (c : zqg) : Int :=
 cond (decide (16 < (c.1.length : Int))) 5 (cond (decide (32 < (c.2.1.length : Int))) 5 (cond (decide (8 < (c.2.2.1.length : Int))) 5 (cond (decide (12 < (c.2.2.2.length : Int))) 5
  (orV (Q10 (·.1) zv c.1) (orV (Q5b (c.1.length : Int) c.2.1) (orV (Q10 (·.1) (calV (c.1.length : Int)) c.2.2.1)
   (Q10 (·.1) (Q2a (c.1.length : Int) (c.2.1.length : Int) (c.2.2.1.length : Int)) c.2.2.2)))))))
theorem Qiy {k : Int → Option β} {a b : Int} {g : Option β} (h : g = k b) : cond (!decide (a = 0)) (k a) g = k (orV a b) := by
 rw [h]
 unfold orV
 cases decide (a = 0) <;> rfl
theorem Qh7 {nz : Int} {xs : List zqe} : ∀ {j : Nat} {l : List (List UInt8)} {e : Int}, walk (Q5a nz) xs j l = .inl e → e ≠ 0 := by
 induction xs with
 | nil => intro j l e h; cases h
 | cons x xs ih =>
  intro j l e h
  unfold walk at h
  unfold Q5a at h
  by_cases h1 : Q4q nz x l = 0
  ·rw [decide_eq_true h1] at h
   by_cases h2 : Q59 nz x = 0
   ·rw [decide_eq_true h2] at h
    exact ih h
   ·rw [decide_eq_false h2] at h
    injection h with h
    exact h ▸ h2
  ·rw [decide_eq_false h1] at h
   injection h with h
   exact h ▸ h1
theorem Qjd (nz : Int) {p : zqe} {l : List (List UInt8)} {f : Int → List (List UInt8 × Bool) → Option β} :
  cond (decide (p.1 = Q9p)) (f 2 (sn (cond (decide (Q1p p.1 l = 0)) (l ++ [p.1]) l))) (f (Q1p p.1 l) (sn (cond (decide (Q1p p.1 l = 0)) (l ++ [p.1]) l))) = f (Q4q nz p l) (sn (cond (decide (Q1p p.1 l = 0)) (l ++ [p.1]) l)) := by
 unfold Q4q
 cases decide (p.1 = Q9p) <;> rfl
theorem Qik {nz : Int} {p : zqe} {l : List (List UInt8)} (h : Q4q nz p l = 0) : Q1p p.1 l = 0 := by
 unfold Q4q at h
 cases hp : decide (p.1 = Q9p) with
 | true => rw [hp] at h; cases h
 | false => rw [hp] at h; exact h
theorem Qil (c : zqg) (xs : List zqe) (hs : xs.length ≤ 1000000) (k : Int → Option β) (K : zqg → Option β) (b : Int) (hK : K c = k b) :
  zqr4 (fun t => k t) K xs (xs.length : Int) 0 c [] = k (orV (Q5b (c.1.length : Int) xs) b) := by
 unfold zqr4
 rw [Q2]
 refine (Q1w (fun m i l => zqr2 m (fun t => k t) K xs (xs.length : Int) i c (sn l)) (Q5a (c.1.length : Int)) (fun e => k e) (fun _ => k b) ([], 0, [], 0, 0, false) xs [] fuel (Q11 (by omega)) (fun m i l hi => ?_) (fun m _ => ?_)).trans ?_
 ·simp only [zqr3, zqr1]
  refine (Qf (by omega)).trans ?_
  refine (Q2m (by omega)).trans ?_
  rw [Int.toNat_natCast]
  generalize hx : xs.getD i ([], 0, [], 0, 0, false) = x
  refine (Q92 _ _ _).trans ?_
  refine (Qjd (c.1.length : Int) (f := fun e s => zqqz (fun t => k t) (fun t392 t402 t412 c2 seen2 => zqr2 m (fun t => k t) K t392 t402 (IntKind.i64.wrap (t412 + 1)) c2 seen2) e xs (xs.length : Int) (i : Int) c s x)).trans ?_
  unfold zqqz
  rw [Q2]
  unfold zqqy Q5a
  simp only
  rw [i64_in ((i : Int) + 1) (by omega)]
  by_cases h1 : Q4q (c.1.length : Int) x l = 0
  ·refine (Qf h1).trans ?_
   rw [decide_eq_true h1, Qik h1]
   refine (Qii _ _ _).trans ?_
   cases decide (Q59 (c.1.length : Int) x = 0) <;> rfl
  ·refine (Qk h1).trans ?_
   refine (Qbv h1).trans ?_
   rw [decide_eq_false h1]
   rfl
 ·simp only [zqr3, zqr1]
  exact (Qk (by omega)).trans hK
 ·unfold Q5b
  cases hw : walk (Q5a (c.1.length : Int)) xs 0 [] with
  | inr _ => rfl
  | inl e =>
   have := Qh7 hw
   show k e = k (orV e b)
   unfold orV
   rw [decide_eq_false this]
   rfl
theorem Q4d (c : zqg) (zv : zqa → Int) (hz : ∀ z ∈ c.1, ∀ k : Int → Option β, zqpg z k = k (zv z)) (k : Int → Option β) : zqr7 c k = k (Q2t zv c) := by
 unfold zqr7
 rw [Q2]
 unfold zqr6 Q2t
 by_cases h1 : (16 : Int) < (c.1.length : Int)
 ·refine (Qf h1).trans ?_
  rw [decide_eq_true h1]; rfl
 refine (Qk h1).trans ?_
 rw [decide_eq_false h1]
 by_cases h2 : (32 : Int) < (c.2.1.length : Int)
 ·refine (Qf h2).trans ?_
  rw [decide_eq_true h2]; rfl
 refine (Qk h2).trans ?_
 rw [decide_eq_false h2]
 by_cases h3 : (8 : Int) < (c.2.2.1.length : Int)
 ·refine (Qf h3).trans ?_
  rw [decide_eq_true h3]; rfl
 refine (Qk h3).trans ?_
 rw [decide_eq_false h3]
 by_cases h4 : (12 : Int) < (c.2.2.2.length : Int)
 ·refine (Qf h4).trans ?_
  rw [decide_eq_true h4]; rfl
 refine (Qk h4).trans ?_
 rw [decide_eq_false h4]
 refine (Qjc c.1 zv hz (by omega) _).trans ?_
 refine Qiy (k := k) ?_
 refine Qil c c.2.1 (by omega) k _ _ ?_
 refine (Qju c c.2.2.1 (by omega) _).trans ?_
 refine Qiy (k := k) ?_
 exact Qfv c c.2.2.2 (by omega) _
end
end
end Go.Lift
namespace Go.Lift
open Go.RowKit Go.IntWalk
noncomputable section
variable [Sl]
set_option linter.unusedSectionVars false
set_option linter.unusedVariables false
set_option linter.unusedSimpArgs false
set_option maxRecDepth 10000
section
variable {β : Type}
theorem c_b {b : Bool} {x y : Option β} (h : b = true) : cond b x y = x := by rw [h]; rfl
theorem Q6j {α γ : Type} (f : α → γ) (xs : List α) (s : List γ) : xs.foldl (fun l i => l ++ [f i]) s = s ++ xs.map f := by
 induction xs generalizing s with
 | nil => simp
 | cons x xs ih => simp [ih, List.append_assoc]
theorem Qim {α : Type} (xs : List α) (s : List α) : xs.foldl (fun l i => l ++ [i]) s = s ++ xs := by
 have := Q6j (fun x : α => x) xs s
 simpa using this
theorem Q51 {n i : Nat} (h : i < n) : (List.range n).getD i 0 = i := by simp [List.getD, h]
theorem Qje (c : zqg) (h1 : c.1.length ≤ 1000000) (h2 : c.2.1.length ≤ 1000000) (h3 : c.2.2.1.length ≤ 1000000) (h4 : c.2.2.2.length ≤ 1000000)
  (h5 : ∀ s ∈ c.2.2.2, s.2.1.length ≤ 1000000 ∧ s.2.2.length ≤ 1000000) (k : List zqa → List zqe → List zq0 → List zq4 → Option β) :
  zq16 c k = k c.1 c.2.1 c.2.2.1 c.2.2.2 := by
 unfold zq16
 rw [Q2]
 unfold zq15
 refine (Q36 (by omega)).trans ?_
 refine (Q36 (by omega)).trans ?_
 refine (Q36 (by omega)).trans ?_
 unfold zq13
 rw [Q2]
 refine (Q3g (fun i l => l.length = i) (fun m i l => zq11 m (fun _ _ _ _ b6 b7 b8 b9 => k b6 b7 b8 b9) i c [] [] [] [] c.1 c.2.1 c.2.2.1 l) (fun l x => l ++ [x]) (fun l => k c.1 c.2.1 c.2.2.1 l) ([], [], []) c.2.2.2 [] fuel (Q11 (by omega)) rfl
  (fun i l hi hl => by simp [hl]) (fun m i l hi hl => ?_) (fun m l hl => ?_)).trans ?_
 ·simp only [zq12, zq10]
  refine (Qf (by omega)).trans ?_
  refine (Q2m (by omega)).trans ?_
  rw [Int.toNat_natCast, i64_in ((i : Int) + 1) (by omega)]
  obtain ⟨g1, g2⟩ := h5 _ (Qf3 (d := (([] : List UInt8), (([] : List zq2), ([] : List (Int × (Int × (Int × (Int × Int)))))))) hi)
  refine (Q36 (by omega)).trans ?_
  refine (Q36 (by omega)).trans ?_
  have h : (l.length + 1) * 64 ≤ 140737488355328 := by omega
  exact (congrArg (fun b => cond b _ none) (Bool.true_and _)).trans (Q36 h)
 ·simp only [zq12, zq10]
  exact Qk (by omega)
 ·rw [Qim]; rfl
def nm (i : Int) : List UInt8 := [110] ++ Q4e [IntKind.u8.wrap (IntKind.i64.wrap (97 + IntKind.i64.wrap (Int.tdiv i 20))), IntKind.u8.wrap (IntKind.i64.wrap (97 + Int.tmod i 20))]
theorem Qh8 (i : Int) (k : List UInt8 → Option β) : zqt i k = k (nm i) := by
 unfold zqt
 rw [Q2]
 unfold zqs
 exact Qf (by simp [Q4e])
def perL (i : Nat) : zqe := (nm i, 0, [], 0, 0, false)
def P32 : List zqe := (List.range 32).map perL
def layT (m : Int) : Int × (Int × Int) × Int × Int × List Int × List (Int × Int) × Int × Int := (0, (1, 0), 0, 400, List.replicate 12 m, [], 0, 0)
def layL (m : Int) (i : Nat) : zq2 := (nm i, layT m)
def L6 (m : Int) : List zq2 := (List.range 6).map (layL m)
def ed (i : Nat) : Ed := (0, 0, 0, (i : Int), (i : Int) + 1)
def E48 : List Ed := (List.range 48).map ed
def schL (m : Int) (i : Nat) : zq4 := (nm i, L6 m, E48)
def S12 (m : Int) : List zq4 := (List.range 12).map (schL m)
def Z1 : List zqa := [([122], 0, [])]
theorem Qk4 (n : Int) (z : List zqa) (c : List zq0) (s : List zq4) (K : Int → List zqa → List zqe → List zq0 → List zq4 → Option β) :
  zqsn K n 0 z [] c s = K n z P32 c s := by
 unfold zqsn
 rw [Q2]
 refine (Q3g (fun i l => l.length = i) (fun m i l => zqsl m K n i z l c s) (fun l x => l ++ [perL x]) (fun l => K n z l c s) 0 (List.range 32) [] fuel (Q11 (by simp)) rfl
  (fun i l hi hl => by simp [hl]) (fun m i l hi hl => ?_) (fun m l hl => ?_)).trans ?_
 ·have hi : i < 32 := by simpa using hi
  simp only [zqsm, zqsk]
  refine (Qf (by omega)).trans ?_
  refine (Qh8 _ _).trans ?_
  have h : (l.length + 1) * 72 ≤ 140737488355328 := by omega
  refine (Q36 h).trans ?_
  rw [i64_in ((i : Int) + 1) (by omega), Q51 hi]
  rfl
 ·simp only [zqsm, zqsk]
  exact Qk (by simp)
 ·rw [Q6j]; rfl
theorem Qk5 (n : Int) (hn : 0 ≤ n ∧ n < 256) (a1 : List UInt8) (a2 a3 a4 a5 a6 a7 a8 : Int) (b1 : List zqa) (b2 : List zqe) (b3 : List zq0) (b4 : List zq4) (b5 : List (Int × Int))
  (K : zqs8 β) : zqss K n 0 a1 a2 a3 a4 a5 a6 a7 a8 b1 b2 b3 b4 [] b5 = K a1 a2 a3 a4 a5 a6 a7 a8 b1 b2 b3 b4 (List.replicate 12 (Int.tmod n 32)) b5 := by
 unfold zqss
 rw [Q2]
 refine (Q3g (fun i l => l.length = i) (fun m i l => zqsq m K n i a1 a2 a3 a4 a5 a6 a7 a8 b1 b2 b3 b4 l b5) (fun l _ => l ++ [Int.tmod n 32]) (fun l => K a1 a2 a3 a4 a5 a6 a7 a8 b1 b2 b3 b4 l b5) 0 (List.range 12) [] fuel (Q11 (by simp)) rfl
  (fun i l hi hl => by simp [hl]) (fun m i l hi hl => ?_) (fun m l hl => ?_)).trans ?_
 ·have hi : i < 12 := by simpa using hi
  simp only [zqsr, zqsp]
  refine (Qf (by omega)).trans ?_
  have h : (l.length + 1) * 8 ≤ 140737488355328 := by omega
  refine (Q36 h).trans ?_
  rw [i64_in ((i : Int) + 1) (by omega), i64_in n (by omega)]
 ·simp only [zqsr, zqsp]
  exact Qk (by simp)
 ·rw [Q6j]; rfl
theorem Qk6 (x : List UInt8) (m0 : Int) (s : List UInt8) (b1 : List zqa) (b2 : List zqe) (b3 : List zq0) (b4 : List zq4) (b5 : List Ed)
  (K : zqsb β) : zqsx K 0 (x, layT m0) s b1 b2 b3 b4 [] b5 = K (layL m0 5) s b1 b2 b3 b4 (L6 m0) b5 := by
 unfold zqsx
 rw [Q2]
 refine (Q3g (fun i (l : List UInt8 × List zq2) => l.2.length = i) (fun m i l => zqsv m K i (l.1, layT m0) s b1 b2 b3 b4 l.2 b5) (fun l (j : Nat) => (nm (j : Int), l.2 ++ [layL m0 j])) (fun l => K (l.1, layT m0) s b1 b2 b3 b4 l.2 b5) 0 (List.range 6) (x, []) fuel (Q11 (by simp)) rfl
  (fun i l hi hl => by simp [hl]) (fun m i l hi hl => ?_) (fun m l hl => ?_)).trans ?_
 ·have hi : i < 6 := by simpa using hi
  simp only [zqsw, zqsu]
  refine (Qf (by omega)).trans ?_
  refine (Qh8 _ _).trans ?_
  have h : (l.2.length + 1) * 120 ≤ 140737488355328 := by omega
  refine (Q36 h).trans ?_
  rw [i64_in ((i : Int) + 1) (by omega), Q51 hi]
  rfl
 ·simp only [zqsw, zqsu]
  exact Qk (by simp)
 ·rfl
theorem Qk7 (x : zq2) (s : List UInt8) (b1 : List zqa) (b2 : List zqe) (b3 : List zq0) (b4 : List zq4) (b5 : List zq2)
  (K : zqse β) : zqt2 K 0 x s b1 b2 b3 b4 b5 [] = K x s b1 b2 b3 b4 b5 E48 := by
 unfold zqt2
 rw [Q2]
 refine (Q3g (fun i l => l.length = i) (fun m i l => zqt0 m K i x s b1 b2 b3 b4 b5 l) (fun l j => l ++ [ed j]) (fun l => K x s b1 b2 b3 b4 b5 l) 0 (List.range 48) [] fuel (Q11 (by simp)) rfl
  (fun i l hi hl => by simp [hl]) (fun m i l hi hl => ?_) (fun m l hl => ?_)).trans ?_
 ·have hi : i < 48 := by simpa using hi
  simp only [zqt1, zqsz]
  refine (Qf (by omega)).trans ?_
  have h : (l.length + 1) * 40 ≤ 140737488355328 := by omega
  refine (Q36 h).trans ?_
  rw [i64_in ((i : Int) + 1) (by omega), Q51 hi]
  rfl
 ·simp only [zqt1, zqsz]
  exact Qk (by simp)
 ·rw [Q6j]; rfl
theorem Qk8 (x : zq2) (s : List UInt8) (m0 : Int) (b1 : List zqa) (b2 : List zqe) (b3 : List zq0)
  (K : zqsh β) : zqt7 K 0 x (s, (L6 m0, E48)) b1 b2 b3 [] = K x b1 b2 b3 (S12 m0) := by
 unfold zqt7
 rw [Q2]
 refine (Q3g (fun i (l : List UInt8 × List zq4) => l.2.length = i) (fun m i l => zqt5 m K i x (l.1, (L6 m0, E48)) b1 b2 b3 l.2) (fun l (j : Nat) => (nm (j : Int), l.2 ++ [schL m0 j])) (fun l => K x b1 b2 b3 l.2) 0 (List.range 12) (s, []) fuel (Q11 (by simp)) rfl
  (fun i l hi hl => by simp [hl]) (fun m i l hi hl => ?_) (fun m l hl => ?_)).trans ?_
 ·have hi : i < 12 := by simpa using hi
  simp only [zqt6, zqt4]
  refine (Qf (by omega)).trans ?_
  refine (Qh8 _ _).trans ?_
  have h : (l.2.length + 1) * 64 ≤ 140737488355328 := by omega
  refine (Q36 h).trans ?_
  rw [i64_in ((i : Int) + 1) (by omega), Q51 hi]
  rfl
 ·simp only [zqt6, zqt4]
  exact Qk (by simp)
 ·rfl
def Q1i : List (List UInt8) → List (List UInt8) → Bool
 | [], _ => true
 | s :: r, l => Q7v s && (!decide (s ∈ l) && Q1i r (l ++ [s]))
theorem Qge {s : List UInt8} {l : List (List UInt8)} (h1 : Q7v s = true) (h2 : s ∉ l) : Q1p s l = 0 := by
 unfold Q1p
 rw [h1, decide_eq_false h2]; rfl
theorem Q93 {α : Type} (of : α → List UInt8) (chk : α → Int) : ∀ (xs : List α) (j : Nat) (l : List (List UInt8)), Q1i (xs.map of) l = true → (∀ x ∈ xs, chk x = 0) → walk (Q2s of chk) xs j l = .inr (l ++ xs.map of)
 | [], j, l, _, _ => by simp [walk]
 | x :: xs, j, l, h, hc => by
  simp only [List.map_cons, Q1i, Bool.and_eq_true] at h
  obtain ⟨h1, h2, h3⟩ := h
  have h2 : of x ∉ l := by simpa using h2
  have hg : Q2s of chk j x l = .inr (l ++ [of x]) := by
   unfold Q2s
   rw [decide_eq_true (Qge h1 h2), decide_eq_true (hc x (List.mem_cons_self ..))]
   rfl
  unfold walk
  rw [hg]
  show walk (Q2s of chk) xs (j + 1) (l ++ [of x]) = _
  rw [Q93 of chk xs (j + 1) _ h3 fun y hy => hc y (List.mem_cons_of_mem _ hy)]
  simp
theorem Qf4 {α σ ε : Type} (g : Nat → α → σ → ε ⊕ σ) : ∀ (a b : List α) (j : Nat) (s s' : σ), walk g a j s = .inr s' → walk g (a ++ b) j s = walk g b (j + a.length) s'
 | [], b, j, s, s', h => by injection h with h; subst h; simp
 | x :: a, b, j, s, s', h => by
  unfold walk at h
  show walk g (x :: (a ++ b)) j s = _
  rw [walk]
  cases hg : g j x s with
  | inl e => rw [hg] at h; cases h
  | inr t =>
   rw [hg] at h
   show walk g (a ++ b) (j + 1) t = _
   rw [Qf4 g a b (j + 1) t s' h]
   simp only [List.length_cons]
   congr 1
   omega
theorem Qf5 {α : Type} {of : α → List UInt8} {chk : α → Int} {xs : List α} (h : Q1i (xs.map of) [] = true) (hc : ∀ x ∈ xs, chk x = 0) : Q10 of chk xs = 0 := by
 unfold Q10
 rw [Q93 of chk xs 0 [] h hc]; rfl
theorem Qa2 : ∀ {a : List (List UInt8)} {s : List UInt8} {l : List (List UInt8)}, Q1i (a ++ [s]) l = true → Q1i a l = true ∧ Q7v s = true ∧ s ∉ l ++ a
 | [], s, l, h => by
  simp only [List.nil_append, Q1i, Bool.and_eq_true] at h
  obtain ⟨h1, h2, _⟩ := h
  exact ⟨rfl, h1, by simpa using h2⟩
 | x :: a, s, l, h => by
  simp only [List.cons_append, Q1i, Bool.and_eq_true] at h
  obtain ⟨h1, h2, h3⟩ := h
  obtain ⟨g1, g2, g3⟩ := Qa2 h3
  refine ⟨?_, g2, ?_⟩
  ·simp only [Q1i, Bool.and_eq_true]
   exact ⟨h1, h2, g1⟩
  ·simpa using g3
theorem Q7x {α : Type} {of : α → List UInt8} {chk : α → Int} {a : List α} {x : α} {b : List α} {e : Int} (h : Q1i ((a ++ [x]).map of) [] = true) (ha : ∀ y ∈ a, chk y = 0) (hx : chk x = e) (he : e ≠ 0) :
  Q10 of chk (a ++ x :: b) = e := by
 rw [List.map_append] at h
 obtain ⟨h1, h2, h3⟩ := Qa2 h
 unfold Q10
 rw [Qf4 _ a (x :: b) 0 [] _ (Q93 of chk a 0 [] h1 ha)]
 unfold walk Q2s
 rw [decide_eq_true (Qge h2 (by simpa using h3)), hx, decide_eq_false he]
 rfl
theorem Qgf (np : Int) : ∀ (xs : List Ed) (j : Nat), (∀ x ∈ xs, Q6i np x = 0) → walk (Q7w np) xs j () = .inr ()
 | [], _, _ => rfl
 | x :: xs, j, h => by
  unfold walk Q7w
  rw [decide_eq_true (h x (List.mem_cons_self ..))]
  exact Qgf np xs (j + 1) fun y hy => h y (List.mem_cons_of_mem _ hy)
theorem Qk9 : ∀ x ∈ E48, Q6i 32 x = 0 := by
 have h : (E48.all fun x => decide (Q6i 32 x = 0)) = true := by kernel_rfl
 intro x hx
 exact of_decide_eq_true (List.all_eq_true.1 h x hx)
theorem Qf6 {m : Int} (hm : 0 ≤ m ∧ m < 32) (s : List UInt8) : Q1d 1 32 0 (s, layT m) = 0 := by
 have h : ixI m 32 = true := by
  unfold ixI
  rw [decide_eq_true hm.1, decide_eq_true hm.2]; rfl
 have h2 : ((List.replicate 12 m).all fun i => ixI i 32) = true := by
  rw [List.all_eq_true]
  intro x hx
  rw [List.eq_of_mem_replicate hx]
  exact h
 have h3 : ∀ b : Bool, b = true → l2V 32 0 false (s, layT m) = cond (!b) 3 0 → l2V 32 0 false (s, layT m) = 0 := by
  intro b hb h
  rw [hb] at h; exact h
 refine Eq.trans (b := l2V 32 0 false (s, layT m)) (by kernel_rfl) ?_
 exact h3 _ h2 (by kernel_rfl)
theorem Qjf : Q1i ((List.range 12).map fun i => nm (i : Nat)) [] = true := by kernel_rfl
theorem Qjv : Q1i ((List.range 6).map fun i => nm (i : Nat)) [] = true := by kernel_rfl
theorem Qin : Q5b 1 P32 = 0 := by kernel_rfl
theorem L6_0 {m : Int} (hm : 0 ≤ m ∧ m < 32) : ∀ x ∈ L6 m, Q1d 1 32 0 x = 0 := by
 intro x hx
 obtain ⟨i, _, rfl⟩ := List.mem_map.1 hx
 exact Qf6 hm _
theorem Qio (m : Int) : Q1i ((L6 m).map (·.1)) [] = true := by
 have : (L6 m).map (·.1) = (List.range 6).map fun i => nm (i : Nat) := by simp [L6, layL]
 rw [this]
 exact Qjv
theorem Qiz {m : Int} (hm : 0 ≤ m ∧ m < 32) (i : Nat) : Q2a 1 32 0 (schL m i) = 0 := by
 unfold Q2a
 show cond (decide ((6 : Int) < ((L6 m).length : Int))) 5 (cond (decide ((48 : Int) < (E48.length : Int))) 5 (cond (decide (Q10 (·.1) (Q1d 1 32 0) (L6 m) = 0)) (errV (walk (Q7w 32) E48 0 ())) (Q10 (·.1) (Q1d 1 32 0) (L6 m)))) = 0
 rw [decide_eq_false (by simp [L6]), decide_eq_false (by simp [E48]), decide_eq_true (Qf5 (Qio m) (L6_0 hm)), Qgf 32 E48 0 Qk9]
 rfl
theorem Qka {a b c d : Prop} [Decidable a] [Decidable b] [Decidable c] [Decidable d] {x : Int} (ha : ¬ a) (hb : ¬ b) (hc : ¬ c) (hd : ¬ d) : cond (decide a) (5 : Int) (cond (decide b) 5 (cond (decide c) 5 (cond (decide d) 5 x))) = x := by
 rw [decide_eq_false ha, decide_eq_false hb, decide_eq_false hc, decide_eq_false hd]; rfl
def zv0 (_ : zqa) : Int := 0
theorem Q6k {sl : List zq4} {e : Int} (hl : sl.length ≤ 12) (h : Q10 (·.1) (Q2a 1 32 0) sl = e) : Q2t zv0 (Z1, P32, [], sl) = e := by
 unfold Q2t
 have h1 : orV (Q10 (·.1) zv0 Z1) (orV (Q5b ((Z1.length : Nat) : Int) P32) (orV (Q10 (·.1) (calV ((Z1.length : Nat) : Int)) []) (Q10 (·.1) (Q2a 1 32 0) sl))) = e := by
  rw [show Q10 (·.1) zv0 Z1 = 0 by kernel_rfl, show Q5b ((Z1.length : Nat) : Int) P32 = 0 from Qin, h]
  rfl
 exact (Qka (by simp [Z1]) (by simp [P32]) (by simp) (show ¬ (12 : Int) < (sl.length : Int) by omega)).trans h1
theorem Qi4 (m : Int) : Q1i ((S12 m).map (·.1)) [] = true := by
 have : (S12 m).map (·.1) = (List.range 12).map fun i => nm (i : Nat) := by simp [S12, schL]
 rw [this]
 exact Qjf
theorem Qjw {m : Int} (hm : 0 ≤ m ∧ m < 32) : Q2t zv0 (Z1, P32, [], S12 m) = 0 := by
 refine Q6k (by simp [S12]) (Qf5 (Qi4 m) fun x hx => ?_)
 obtain ⟨i, _, rfl⟩ := List.mem_map.1 hx
 exact Qiz hm i
theorem Qkb (m : Int) : Q2t zv0 (Z1, P32 ++ [([109, 111, 114, 101], 0, [], 0, 0, false)], [], S12 m) = 5 := by
 unfold Q2t
 rw [decide_eq_false (by simp [Z1]), decide_eq_true (by simp [P32])]
 rfl
theorem Qkc (m : Int) : Q2t zv0 (Z1, P32, [], S12 m ++ [([109, 111, 114, 101], [], [])]) = 5 := by
 unfold Q2t
 rw [decide_eq_false (by simp [Z1]), decide_eq_false (by simp [P32]), decide_eq_false (by simp), decide_eq_true (by simp [S12])]
 rfl
def S11 (m : Int) : List zq4 := [schL m 1, schL m 2, schL m 3, schL m 4, schL m 5, schL m 6, schL m 7, schL m 8, schL m 9, schL m 10, schL m 11]
def S10 (m : Int) : List zq4 := [schL m 2, schL m 3, schL m 4, schL m 5, schL m 6, schL m 7, schL m 8, schL m 9, schL m 10, schL m 11]
def L3 (m : Int) : List zq2 := [layL m 3, layL m 4, layL m 5]
theorem Qkd (m : Int) : Q2t zv0 (Z1, P32, [], (nm (0 : Nat), L6 m, E48 ++ [(0, 0, 0, 0, 1)]) :: S11 m) = 5 := by
 refine Q6k (by simp [S11]) (Q7x (a := []) (by kernel_rfl) (fun y hy => absurd hy List.not_mem_nil) ?_ (by decide))
 unfold Q2a
 rw [decide_eq_false (by simp [L6]), decide_eq_true (by simp [E48])]
 rfl
theorem Qke (m : Int) : Q2t zv0 (Z1, P32, [], (nm (0 : Nat), L6 m ++ [layL m 5], E48) :: S11 m) = 5 := by
 refine Q6k (by simp [S11]) (Q7x (a := []) (by kernel_rfl) (fun y hy => absurd hy List.not_mem_nil) ?_ (by decide))
 unfold Q2a
 rw [decide_eq_true (by simp [L6])]
 rfl
theorem Qj0 {m : Int} (hm : 0 ≤ m ∧ m < 32) {l : zq2} {e : Int} (he : Q1d 1 32 0 l = e) (hl : l.1 = nm (2 : Nat)) (h0 : e ≠ 0) :
  Q2t zv0 (Z1, P32, [], schL m 0 :: (nm (1 : Nat), layL m 0 :: layL m 1 :: l :: L3 m, E48) :: S10 m) = e := by
 refine Q6k (by simp [S10]) (Q7x (a := [schL m 0]) (x := (nm (1 : Nat), layL m 0 :: layL m 1 :: l :: L3 m, E48)) (by kernel_rfl) (fun y hy => ?_) ?_ h0)
 ·rw [List.mem_singleton.1 hy]
  exact Qiz hm 0
 ·have hv : Q10 (·.1) (Q1d 1 32 0) (layL m 0 :: layL m 1 :: l :: L3 m) = e := by
   refine Q7x (a := [layL m 0, layL m 1]) (x := l) ?_ (fun y hy => ?_) he h0
   ·show Q1i [nm (0 : Nat), nm (1 : Nat), l.1] [] = true
    rw [hl]
    kernel_rfl
   ·rcases List.mem_cons.1 hy with rfl | hy
    ·exact Qf6 hm _
    ·rw [List.mem_singleton.1 hy]
     exact Qf6 hm _
  unfold Q2a
  rw [decide_eq_false (by simp [L3]), decide_eq_false (by simp [E48]), hv, decide_eq_false h0]
  rfl
def layV (m : Int) : zq2 := (nm (2 : Nat), (0, (1, 0), 0, 400, List.replicate 12 m ++ [0], [], 0, 0))
def layW (m : Int) : zq2 := (nm (2 : Nat), (0, (1, 0), 0, 401, List.replicate 12 m, [], 0, 0))
theorem Qjx (m : Int) : Q1d 1 32 0 (layV m) = 5 := by kernel_rfl
theorem Qjy (m : Int) : Q1d 1 32 0 (layW m) = 1 := by kernel_rfl
end
end
end Go.Lift
namespace Go.Lift
open Go.RowKit Go.IntWalk
noncomputable section
variable [Sl]
set_option linter.unusedSectionVars false
set_option linter.unusedVariables false
set_option linter.unusedSimpArgs false
set_option maxRecDepth 10000
section
variable {β : Type}
theorem Qjg {n : Int} (h : 0 ≤ n ∧ n < 256) : 0 ≤ Int.tmod n 32 ∧ Int.tmod n 32 < 32 :=
 ⟨Int.tmod_nonneg 32 h.1, Int.tmod_lt_of_pos n (by decide)⟩
theorem lims (hz : ∀ k : Int → Option β, zqpg ([122], 0, []) k = k 0) (hs : ∀ k : Bool → Option β, zqs0 k = k true) (n : Int) (hn : 0 ≤ n ∧ n < 256) (k : Bool → Option β) :
  zqta n k = k true := by
 unfold zqta
 rw [Q2]
 unfold zqt9
 have hm := Qjg hn
 have hz : ∀ z ∈ Z1, ∀ k : Int → Option β, zqpg z k = k (zv0 z) := by
  intro z hz' k
  rw [List.mem_singleton.1 hz']
  exact hz k
 refine (Qk4 _ _ _ _ _).trans ?_
 refine (Qk5 n hn _ _ _ _ _ _ _ _ _ _ _ _ _ _).trans ?_
 generalize Int.tmod n 32 = m at hm
 refine (Qk6 _ m _ _ _ _ _ _ _).trans ?_
 refine (Qk7 _ _ _ _ _ _ _ _).trans ?_
 refine (Qk8 _ _ m _ _ _ _).trans ?_
 have hc : ∀ K : List zqa → List zqe → List zq0 → List zq4 → Option β, zq16 (Z1, (P32, ([], S12 m))) K = K Z1 P32 [] (S12 m) := by
  intro K
  refine Qje _ (by simp [Z1]) (by simp [P32]) (by simp) (by simp [S12]) ?_ K
  intro s hs
  obtain ⟨i, _, rfl⟩ := List.mem_map.1 hs
  exact ⟨by simp [schL, L6], by simp [schL, E48]⟩
 refine (Q4d (Z1, P32, [], S12 m) zv0 hz _).trans ?_
 refine (Qi1 (Qjw hm)).trans ?_
 refine (hc _).trans ?_
 refine (c_b (by kernel_rfl)).trans ?_
 refine (hc _).trans ?_
 refine (c_b (by kernel_rfl)).trans ?_
 refine (hc _).trans ?_
 refine (c_b (by kernel_rfl)).trans ?_
 refine (c_b (by kernel_rfl)).trans ?_
 refine (c_b (by kernel_rfl)).trans ?_
 refine (c_b (by kernel_rfl)).trans ?_
 refine (hc _).trans ?_
 refine (c_b (by kernel_rfl)).trans ?_
 refine (c_b (by kernel_rfl)).trans ?_
 refine (c_b (by kernel_rfl)).trans ?_
 refine (c_b (by kernel_rfl)).trans ?_
 refine (hc _).trans ?_
 refine (c_b (by kernel_rfl)).trans ?_
 refine (c_b (by kernel_rfl)).trans ?_
 refine (c_b (by kernel_rfl)).trans ?_
 refine (c_b (by kernel_rfl)).trans ?_
 refine (hc _).trans ?_
 refine (c_b (by kernel_rfl)).trans ?_
 refine (c_b (by kernel_rfl)).trans ?_
 refine (c_b (by kernel_rfl)).trans ?_
 refine (Q4d _ zv0 hz _).trans ?_
 refine (Qf (Qkb m)).trans ?_
 refine (Q4d _ zv0 hz _).trans ?_
 refine (Qf (Qkc m)).trans ?_
 refine (Q4d _ zv0 hz _).trans ?_
 refine (Qf (Qkd m)).trans ?_
 refine (Q4d _ zv0 hz _).trans ?_
 refine (Qf (Qke m)).trans ?_
 refine (Q4d _ zv0 hz _).trans ?_
 refine (Qf (Qj0 hm (Qjx m) rfl (by decide))).trans ?_
 refine (Q4d _ zv0 hz _).trans ?_
 refine (Qf (Qj0 hm (Qjy m) rfl (by decide))).trans ?_
 exact hs _
end
end
end Go.Lift
namespace Go.Lift
open Go.RowKit Go.IntWalk
noncomputable section
def Qaj [Sl] : Prop := (∀ {β : Type} (k : Int → Option β), zqpg ([122], 0, []) k = k 0) ∧ ∀ {β : Type} (k : Bool → Option β), zqs0 k = k true
theorem Qip : @Qaj ⟨0⟩ := ⟨fun k => by kernel_rfl, fun k => by kernel_rfl⟩
theorem resolveLimits [Sl] (F : Qaj) {β : Type} {n : Int} (h : (Lit.int .u8 n).wf = true) (k : Bool → Option β) : zqta n k = k true :=
 lims F.1 F.2 n ⟨(Qiu h).1, by have := (Qiu h).2; omega⟩ k
end
end Go.Lift
