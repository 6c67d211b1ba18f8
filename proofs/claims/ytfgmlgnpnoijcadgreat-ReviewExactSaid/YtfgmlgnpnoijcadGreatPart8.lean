/- Part8: LInc1, LInc2, LAsc, LInc3, LInc4, LDice, LDice1, LWp, LWp2, LWp3, LWp4, LWp5, LWp6, LIncSz, LMat, LCls, LClk, LCls2, LCns, LRec, LRgs. -/
import Derived.KernelRfl
import Derived.Test.YtfgmlgnpnoijcadGreatPart7
set_option linter.unusedVariables false
set_option linter.unusedSimpArgs false
namespace Go.Lift
open Go.RowKit Go.IntWalk
noncomputable section
set_option linter.unusedVariables false
set_option linter.unusedSimpArgs false
set_option maxRecDepth 10000
theorem Q2a {β σ : Type} (n : Nat) (S : Nat → σ) (q : Nat → Bool) (F : Nat → Int → σ → Option β) (K E : Option β) (N : Nat) (hn : n < N)
  (h1 : ∀ (m i : Nat), i < n → F (m + 1) (i : Int) (S i) = cond (q i) (F m ((i : Int) + 1) (S (i + 1))) E)
  (h2 : ∀ (m : Nat), F (m + 1) (n : Int) (S n) = K) : F N 0 (S 0) = cond ((List.range n).all q) K E := by
 have key : ∀ (r i N : Nat), i + r = n → r < N → F N (i : Int) (S i) = cond ((List.range' i r).all q) K E := by
  intro r
  induction r with
  | zero =>
   intro i N hi hN
   obtain ⟨m, rfl⟩ : ∃ m, N = m + 1 := ⟨N - 1, by omega⟩
   rw [show i = n by omega, h2]
   rfl
  | succ r ih =>
   intro i N hi hN
   obtain ⟨m, rfl⟩ : ∃ m, N = m + 1 := ⟨N - 1, by omega⟩
   rw [h1 m i (by omega), List.range'_succ, List.all_cons]
   cases q i with
   | true =>
    have := ih (i + 1) m (by omega) (by omega)
    rw [show (((i + 1 : Nat)) : Int) = (i : Int) + 1 by omega] at this
    rw [Bool.true_and]
    exact this
   | false => rfl
 have := key n 0 N (by omega) hn
 rw [List.range_eq_range']
 exact this
def inB (n low high : Int) : Bool := decide (low ≤ n) && decide (n ≤ high)
theorem Q2y {n low high : Int} : inB n low high = true ↔ low ≤ n ∧ n ≤ high := by simp [inB]
def Qs (n : Int) : Bool := decide (n = -1) || inB n 0 31
def Q2r (s : List UInt8) : Bool := s.all (fun b => inB (b.toNat : Int) 32 126) && inB (s.length : Int) 1 512
def setI (l : List Int) (lo hi : Int) (i : Nat) : Bool := inB (l.getD i 0) lo hi && !(decide (0 < i) && decide (l.getD i 0 ≤ l.getD (i - 1) 0))
def setB (l : List Int) (lo hi : Int) : Bool := (List.range l.length).all (setI l lo hi)
abbrev Q6l := zqq
abbrev IUpd := zqs
abbrev IChg := (Int × (Int × Int))
abbrev Inc := zqw
def Q2h (opened : Int) (t : Q6l) : Bool := Q2r t.1 && (Qs t.2.1 && (inB t.2.2.1 opened 8589934592 && (decide (t.2.2.2 = -1) || inB t.2.2.2 t.2.2.1 8589934592)))
def uAt (l : List IUpd) (o : Int) (i : Nat) : Int := if i = 0 then o else (l.getD (i - 1) (0, (0, ([], [])))).1
def updI (l : List IUpd) (o : Int) (i : Nat) : Bool :=
 inB (l.getD i (0, (0, ([], [])))).1 (uAt l o i) 8589934592 && (inB (l.getD i (0, (0, ([], [])))).2.1 0 4 && (Q2r (l.getD i (0, (0, ([], [])))).2.2.1 && setB (l.getD i (0, (0, ([], [])))).2.2.2 0 31))
def updB (l : List IUpd) (o : Int) : Bool := (List.range l.length).all (updI l o)
def cAt (l : List IChg) (o : Int) (i : Nat) : Int := if i = 0 then o else (l.getD (i - 1) (0, (0, 0))).1
def cSt (l : List IChg) (i : Nat) : Int := if i = 0 then 0 else (l.getD (i - 1) (0, (0, 0))).2.1
def chgI (l : List IChg) (o : Int) (i : Nat) : Bool :=
 inB (l.getD i (0, (0, 0))).1 (cAt l o i) 8589934592 && (inB (l.getD i (0, (0, 0))).2.1 0 4 && (!decide ((l.getD i (0, (0, 0))).2.1 = cSt l i) && Qs (l.getD i (0, (0, 0))).2.2))
def chgB (l : List IChg) (o : Int) : Bool := (List.range l.length).all (chgI l o)
section
variable {β : Type}
theorem Q3g (n lo hi : Int) (k : Bool → Option β) : zq97 n lo hi k = k (inB n lo hi) := by simp only [zq97, Q0, zq96, inB, c_kb]
theorem Qt (n lo hi : Int) (k : Bool → Option β) : zq56 n lo hi k = k (inB n lo hi) := by simp only [zq56, Q0, zq55, inB, c_kb]
theorem Qid (n : Int) (k : Bool → Option β) : zqf6 n k = k (inB n 0 31) := by simp only [zqf6, Q0, zqf5, Q3g]
theorem Qbp (n : Int) (k : Bool → Option β) : zqs7 n k = k (inB n 1 999999) := by simp only [zqs7, Q0, zqs6, Q3g]
theorem Qao (n : Int) (k : Bool → Option β) : zqsb n k = k (Qs n) := by
 simp only [zqsb, Q0, zqsa, Qid, Qs]
 cases decide (n = -1) <;> rfl
theorem Q69 (n : Int) (k : Bool → Option β) : zq5m n true k = k (Qs n) := by
 simp only [zq5m, Q0, zq5l, Qt, Qs]
 cases inB n 0 31 <;> cases decide (n = -1) <;> rfl
theorem Q94 (n : Int) (k : Bool → Option β) : zqay n k = k (inB n 0 4) := by simp only [zqay, Q0, zqax, Qt]
theorem Qmr (b : UInt8) : 0 ≤ (b.toNat : Int) ∧ (b.toNat : Int) < 256 := ⟨by omega, by have := b.toNat_lt; omega⟩
theorem Qap (s : List UInt8) (hs : s.length ≤ 1000000) (k : Bool → Option β) : zq9l s k = k (Q2r s) := by
 have h := Qk (fun m i => zq9g m (fun (t2 : Bool) => k t2) (fun (s2 : List UInt8) => zq97 (s2.length : Int) 1 512 (fun (rin : Bool) => k rin)) s (s.length : Int) i) (fun b => inB (b.toNat : Int) 32 126) (k false) (k (inB (s.length : Int) 1 512)) 0 s fuel (Q3 (by omega))
  (fun m i hi => by
   have hb := Qmr (s.getD i 0)
   have hw : IntKind.i64.wrap ((s.getD i 0).toNat : Int) = ((s.getD i 0).toNat : Int) := i64_in _ (by omega)
   simp (disch := omega) only [zq9h, zq9f, Q3g, Q8, Q6, Q32, i64_in, Int.toNat_natCast, hw])
  (fun m => by simp (disch := omega) only [zq9h, zq9f, Qa, Q3g])
 unfold zq9l
 rw [Q0]
 unfold zq9k
 refine Eq.trans ?_ (h.trans ?_)
 ·first | rfl | (simp only [zq9i, Q0]; done) | (simp only [zq9i, Q0]; rfl)
 ·unfold Q2r
  rw [c_kb]
theorem Q6a (s : List UInt8) (hs : s.length ≤ 1000000) (k : Bool → Option β) : zq6u s k = k (Q2r s) := by
 have h := Qk (fun m i => zq6p m (fun (t2 : Bool) => k t2) (fun (s2 : List UInt8) => zq56 (s2.length : Int) 1 512 (fun (rin : Bool) => k rin)) s i) (fun b => inB (b.toNat : Int) 32 126) (k false) (k (inB (s.length : Int) 1 512)) 0 s fuel (Q3 (by omega))
  (fun m i hi => by
   simp (disch := omega) only [zq6q, zq6o, Q8, Q6, i64_in, Int.toNat_natCast]
   unfold inB
   by_cases h1 : ((s.getD i 0).toNat : Int) < 32
   ·rw [decide_eq_true h1, decide_eq_false (show ¬ (32 : Int) ≤ ((s.getD i 0).toNat : Int) by omega)]; rfl
   ·rw [decide_eq_false h1, decide_eq_true (show (32 : Int) ≤ ((s.getD i 0).toNat : Int) by omega)]
    by_cases h2 : (126 : Int) < ((s.getD i 0).toNat : Int)
    ·rw [decide_eq_true h2, decide_eq_false (show ¬ ((s.getD i 0).toNat : Int) ≤ 126 by omega)]; rfl
    ·rw [decide_eq_false h2, decide_eq_true (show ((s.getD i 0).toNat : Int) ≤ 126 by omega)]; rfl)
  (fun m => by simp (disch := omega) only [zq6q, zq6o, Qa, Qt])
 unfold zq6u
 rw [Q0]
 unfold zq6t
 refine Eq.trans ?_ (h.trans ?_)
 ·first | rfl | (simp only [zq6r, Q0]; done) | (simp only [zq6r, Q0]; rfl)
 ·unfold Q2r
  rw [c_kb]
theorem Qh5 (l : List Int) (lo hi : Int) (hl : l.length ≤ 1000000) (k : Bool → Option β) : zq9z l lo hi k = k (setB l lo hi) := by
 have h := Q2a l.length (fun _ => ()) (setI l lo hi) (fun m i _ => zq9u m (fun (t6 : Bool) => k t6) (fun (_ : Unit) => k true) l lo hi l (l.length : Int) i) (k true) (k false) fuel (Q3 (by omega))
  (fun m i hi' => by
   simp (disch := omega) only [zq9v, zq9t, Q3g, Q8, Q6, i64_in, Int.toNat_natCast, Q32]
   unfold setI
   cases inB (l.getD i 0) lo hi with
   | false => rfl
   | true =>
    cases i with
    | zero => rfl
    | succ j =>
     refine (Q8 (by omega)).trans ?_
     have e : ((((j + 1 : Nat)) : Int) - 1) = (j : Int) := by omega
     rw [e]
     refine (Q6 (by omega)).trans ?_
     rw [Int.toNat_natCast, decide_eq_true (show 0 < j + 1 by omega), show j + 1 - 1 = j by omega]
     cases decide (l.getD (j + 1) 0 ≤ l.getD j 0) <;> rfl)
  (fun m => by simp (disch := omega) only [zq9v, zq9t, Qa])
 unfold zq9z
 rw [Q0]
 unfold zq9y
 refine Eq.trans ?_ (h.trans ?_)
 ·first | rfl | (simp only [zq9w, Q0]; done) | (simp only [zq9w, Q0]; rfl)
 ·unfold setB
  cases (List.range l.length).all (setI l lo hi) <;> rfl
theorem Qae (l : List Int) (hl : l.length ≤ 1000000) (k : Bool → Option β) : zqa3 l k = k (setB l 0 31) := by
 unfold zqa3
 rw [Q0]
 unfold zqa2
 exact Qh5 l 0 31 hl _
theorem Q9s (l : List Int) (hl : l.length ≤ 1000000) (k : Bool → Option β) : zqbb l 32 k = k (setB l 0 31) := by
 have h := Q2a l.length (fun _ => ()) (setI l 0 31) (fun m i _ => zqb6 m (fun (t6 : Bool) => k t6) (fun (_ : Unit) => k true) l 32 i) (k true) (k false) fuel (Q3 (by omega))
  (fun m i hi' => by
   simp (disch := omega) only [zqb7, zqb5, Q8, Q6, i64_in, Int.toNat_natCast]
   unfold setI inB
   by_cases h1 : l.getD i 0 < 0
   ·rw [decide_eq_true h1, decide_eq_false (show ¬ (0 : Int) ≤ l.getD i 0 by omega)]; rfl
   rw [decide_eq_false h1, decide_eq_true (show (0 : Int) ≤ l.getD i 0 by omega)]
   by_cases h2 : (32 : Int) ≤ l.getD i 0
   ·rw [decide_eq_true h2, decide_eq_false (show ¬ l.getD i 0 ≤ 31 by omega)]; rfl
   rw [decide_eq_false h2, decide_eq_true (show l.getD i 0 ≤ 31 by omega)]
   cases i with
   | zero => rfl
   | succ j =>
    refine c_f.trans (c_f.trans ?_)
    refine (Q8 (by omega)).trans ?_
    have e : ((((j + 1 : Nat)) : Int) - 1) = (j : Int) := by omega
    rw [e]
    refine (Q6 (by omega)).trans ?_
    rw [Int.toNat_natCast, decide_eq_true (show 0 < j + 1 by omega), show j + 1 - 1 = j by omega]
    cases decide (l.getD (j + 1) 0 ≤ l.getD j 0) <;> rfl)
  (fun m => by simp (disch := omega) only [zqb7, zqb5, Qa])
 unfold zqbb
 rw [Q0]
 unfold zqba
 unfold zqb8
 rw [Q0]
 refine Eq.trans h ?_
 ·unfold setB
  cases (List.range l.length).all (setI l 0 31) <;> rfl
end
end
end Go.Lift
namespace Go.Lift
open Go.RowKit Go.IntWalk
noncomputable section
set_option linter.unusedVariables false
set_option linter.unusedSimpArgs false
set_option maxRecDepth 10000
abbrev Inc.id (x : Inc) : Int := x.1
abbrev Inc.st (x : Inc) : Int := x.2.1
abbrev Inc.sev (x : Inc) : Int := x.2.2.1
abbrev Inc.op (x : Inc) : Int := x.2.2.2.1
abbrev Inc.ti (x : Inc) : List UInt8 := x.2.2.2.2.1
abbrev Inc.ro (x : Inc) : Int × (Int × Int) := x.2.2.2.2.2.1
abbrev Inc.pg (x : Inc) : List Int := x.2.2.2.2.2.2.1
abbrev Inc.ts (x : Inc) : List Q6l := x.2.2.2.2.2.2.2.1
abbrev Inc.up (x : Inc) : List IUpd := x.2.2.2.2.2.2.2.2.1
abbrev Inc.su (x : Inc) : List Int := x.2.2.2.2.2.2.2.2.2.1
abbrev Inc.ch (x : Inc) : List IChg := x.2.2.2.2.2.2.2.2.2.2.1
abbrev Inc.in (x : Inc) : Int := x.2.2.2.2.2.2.2.2.2.2.2
structure SizedI (x : Inc) : Prop where
 ti : x.ti.length ≤ 100000
 pg : x.pg.length ≤ 100000
 ts : x.ts.length ≤ 100000
 up : x.up.length ≤ 100000
 su : x.su.length ≤ 100000
 ch : x.ch.length ≤ 100000
 tt : ∀ t ∈ x.ts, t.1.length ≤ 100000
 ut : ∀ u ∈ x.up, u.2.2.1.length ≤ 100000
 ul : ∀ u ∈ x.up, u.2.2.2.length ≤ 100000
theorem Q14 {α : Type} {l : List α} {i : Nat} {d : α} (h : i < l.length) : l.getD i d ∈ l := by simp [List.getD, h]
section
variable {β : Type}
theorem Qjg {x : Inc} (ts : List Q6l) (hl : ts.length ≤ 100000) (ht : ∀ t ∈ ts, t.1.length ≤ 100000) (k1 : zqsf β) (k2 : zqsg β) :
  zqsm k1 k2 ts (ts.length : Int) 0 x = cond (ts.all (Q2h x.2.2.2.1)) (k2 x) (k1 false) := by
 unfold zqsm
 rw [Q0]
 exact Qk (fun m i => zqsk m k1 k2 ts (ts.length : Int) i x) (Q2h x.2.2.2.1) _ _ ([], (0, (0, 0))) ts fuel (Q3 (by omega))
  (fun m i hi => by
   have h1 := ht _ (Q14 (d := (([], (0, (0, 0))) : Q6l)) hi)
   simp (disch := omega) only [zqsl, zqsj, Q3g, Qao, Qap, Q8, Q6, i64_in, Int.toNat_natCast]
   unfold Q2h
   cases Q2r (ts.getD i ([], (0, (0, 0)))).1 <;> cases Qs (ts.getD i ([], (0, (0, 0)))).2.1 <;> cases inB (ts.getD i ([], (0, (0, 0)))).2.2.1 x.2.2.2.1 8589934592 <;> cases decide ((ts.getD i ([], (0, (0, 0)))).2.2.2 = -1) <;> cases inB (ts.getD i ([], (0, (0, 0)))).2.2.2 (ts.getD i ([], (0, (0, 0)))).2.2.1 8589934592 <;> rfl)
  (fun m => by simp (disch := omega) only [zqsl, zqsj, Qa])
theorem Qjh {x : Inc} (hs : SizedI x) (k : Bool → Option β) : zqsp x k = k (x.ts.all (Q2h x.op) && decide ((x.ts.length : Int) ≤ 16)) := by
 unfold zqsp
 rw [Q0]
 unfold zqso
 refine (Qjg x.ts hs.ts hs.tt _ _).trans ?_
 cases x.ts.all (Q2h x.op) <;> rfl
theorem Qms {x : Inc} (l : List IUpd) (hl : l.length ≤ 100000) (ht : ∀ t ∈ l, t.2.2.1.length ≤ 100000) (hu : ∀ t ∈ l, t.2.2.2.length ≤ 100000) (o : Int) (k1 : zqa7 β) (k2 : zqa8 β) :
  zqae k1 k2 o l (l.length : Int) 0 x = cond (updB l o) (k2 x) (k1 false) := by
 unfold zqae
 rw [Q0]
 exact Q2a l.length (uAt l o) (updI l o) (fun m i s => zqac m k1 k2 s l (l.length : Int) i x) _ _ fuel (Q3 (by omega))
  (fun m i hi => by
   have h1 := ht _ (Q14 (d := ((0, (0, ([], []))) : IUpd)) hi)
   have h2 := hu _ (Q14 (d := ((0, (0, ([], []))) : IUpd)) hi)
   have e : uAt l o (i + 1) = (l.getD i (0, (0, ([], [])))).1 := by unfold uAt; rw [if_neg (by omega)]; rfl
   simp (disch := omega) only [zqad, zqab, Q3g, Qae, Qap, Q8, Q6, i64_in, Int.toNat_natCast]
   rw [e]
   unfold updI
   generalize l.getD i (0, (0, ([], []))) = t
   cases inB t.1 (uAt l o i) 8589934592 <;> cases inB t.2.1 0 4 <;> cases Q2r t.2.2.1 <;> cases setB t.2.2.2 0 31 <;> rfl)
  (fun m => by simp (disch := omega) only [zqad, zqab, Qa])
theorem Qmt {x : Inc} (hs : SizedI x) (k : Bool → Option β) : zqah x k = k (updB x.up x.op && decide ((x.up.length : Int) ≤ 32)) := by
 unfold zqah
 rw [Q0]
 unfold zqag
 refine (Qms x.up hs.up hs.ut hs.ul x.op _ _).trans ?_
 cases updB x.up x.op <;> rfl
theorem Qmu {x : Inc} (l : List IChg) (hl : l.length ≤ 100000) (o : Int) (k1 : zqst β) (k2 : zqsu β) :
  zqt0 k1 k2 o 0 l (l.length : Int) 0 x = cond (chgB l o) (k2 (cSt l l.length) x) (k1 false) := by
 unfold zqt0
 rw [Q0]
 exact Q2a l.length (fun i => (cAt l o i, cSt l i)) (chgI l o) (fun m i s => zqsy m k1 k2 s.1 s.2 l (l.length : Int) i x) _ _ fuel (Q3 (by omega))
  (fun m i hi => by
   have e : cAt l o (i + 1) = (l.getD i (0, (0, 0))).1 := by unfold cAt; rw [if_neg (by omega)]; rfl
   have e2 : cSt l (i + 1) = (l.getD i (0, (0, 0))).2.1 := by unfold cSt; rw [if_neg (by omega)]; rfl
   simp (disch := omega) only [zqsz, zqsx, Q3g, Qao, Q8, Q6, i64_in, Int.toNat_natCast]
   rw [e, e2]
   unfold chgI
   cases inB (l.getD i (0, (0, 0))).1 (cAt l o i) 8589934592 <;> cases inB (l.getD i (0, (0, 0))).2.1 0 4 <;> cases decide ((l.getD i (0, (0, 0))).2.1 = cSt l i) <;> cases Qs (l.getD i (0, (0, 0))).2.2 <;> rfl)
  (fun m => by simp (disch := omega) only [zqsz, zqsx, Qa])
theorem Qmv {x : Inc} (hs : SizedI x) (k : Bool → Option β) : zqt3 x k = k (chgB x.ch x.op && (decide ((x.ch.length : Int) ≤ 32) && decide (x.st = cSt x.ch x.ch.length))) := by
 unfold zqt3
 rw [Q0]
 unfold zqt2
 refine (Qmu x.ch hs.ch x.op _ _).trans ?_
 cases chgB x.ch x.op <;> cases decide ((x.ch.length : Int) ≤ 32) <;> rfl
def Q49 (x : Inc) : Bool :=
 inB x.id 1 999999 && (inB x.sev 1 5 && (inB x.op 0 8589934592 && (Q2r x.ti && ((Qs x.ro.1 && (Qs x.ro.2.1 && Qs x.ro.2.2)) && (setB x.pg 1 999999 && (!decide ((64 : Int) < x.pg.length) && (setB x.su 0 31 &&
  ((cond (decide (x.st = 4)) (inB x.in 1 999999 && !decide (x.in = x.id)) (decide (x.in = 0))) &&
  ((x.ts.all (Q2h x.op) && decide ((x.ts.length : Int) ≤ 16)) && ((updB x.up x.op && decide ((x.up.length : Int) ≤ 32)) && (chgB x.ch x.op && (decide ((x.ch.length : Int) ≤ 32) && decide (x.st = cSt x.ch x.ch.length)))))))))))))
theorem Qf6 {x : Inc} (r : Int × (Int × Int)) (k1 : zq13h β) (k2 : zq13i β) :
  zq13r k1 k2 r 0 x = cond (Qs r.1 && (Qs r.2.1 && Qs r.2.2)) (k2 x) (k1 false) := by
 unfold zq13r
 rw [Q0]
 have h := Qk (fun m i => zq13p m k1 k2 r i x) Qs (k1 false) (k2 x) 0 [r.1, r.2.1, r.2.2] fuel (Q3 (by simp))
  (fun m i hi => by
   have hi : i < 3 := hi
   simp (disch := first | omega | (simp; omega)) only [zq13q, zq13o, Qao, Q8, Q6, Q32, i64_in, Int.toNat_natCast])
  (fun m => by simp (disch := first | omega | (simp; omega)) only [zq13q, zq13o, List.length_cons, List.length_nil, Qa])
 refine h.trans ?_
 simp only [List.all_cons, List.all_nil, Bool.and_true]
theorem Qji {x : Inc} (hs : SizedI x) (k : Bool → Option β) : zq13x x k = k (Q49 x) := by
 have hx : (x.1, (x.2.1, (x.2.2.1, (x.2.2.2.1, (x.2.2.2.2.1, ((x.2.2.2.2.2.1.1, (x.2.2.2.2.2.1.2.1, x.2.2.2.2.2.1.2.2)), (x.2.2.2.2.2.2.1, (x.2.2.2.2.2.2.2.1, (x.2.2.2.2.2.2.2.2.1, (x.2.2.2.2.2.2.2.2.2.1, (x.2.2.2.2.2.2.2.2.2.2.1, x.2.2.2.2.2.2.2.2.2.2.2))))))))))) = x := rfl
 have h2 : ∀ k1 : zq13l β, zq13u k1 x
   = k1 ((x.ts.all (Q2h x.op) && decide ((x.ts.length : Int) ≤ 16)) && ((updB x.up x.op && decide ((x.up.length : Int) ≤ 32)) && (chgB x.ch x.op && (decide ((x.ch.length : Int) ≤ 32) && decide (x.st = cSt x.ch x.ch.length))))) := fun k1 => by
  unfold zq13u
  rw [Q0]
  unfold zq13t
  refine (Qjh (x := x) hs _).trans ?_
  generalize (x.ts.all (Q2h x.op) && decide ((x.ts.length : Int) ≤ 16)) = a
  cases a with
  | false => rfl
  | true =>
   refine c_t.trans ?_
   refine (Qmt (x := x) hs _).trans ?_
   generalize (updB x.up x.op && decide ((x.up.length : Int) ≤ 32)) = a
   cases a with
   | false => rfl
   | true =>
    refine c_t.trans ?_
    exact Qmv (x := x) hs _
 unfold zq13x
 rw [Q0]
 unfold zq13w Q49
 refine (Qbp _ _).trans ?_
 generalize inB x.1 1 999999 = a
 cases a with
 | false => rfl
 | true =>
 refine c_f.trans ?_
 refine (Q3g _ _ _ _).trans ?_
 generalize inB x.2.2.1 1 5 = a
 cases a with
 | false => rfl
 | true =>
 refine c_f.trans ?_
 refine (Q3g _ _ _ _).trans ?_
 generalize inB x.2.2.2.1 0 8589934592 = a
 cases a with
 | false => rfl
 | true =>
 refine c_f.trans ?_
 refine (Qap _ (Nat.le_trans hs.ti (by decide)) _).trans ?_
 generalize Q2r x.2.2.2.2.1 = a
 cases a with
 | false => rfl
 | true =>
 refine c_f.trans ?_
 refine (Qf6 _ _ _).trans ?_
 generalize (Qs x.2.2.2.2.2.1.1 && (Qs x.2.2.2.2.2.1.2.1 && Qs x.2.2.2.2.2.1.2.2)) = a
 cases a with
 | false => rfl
 | true =>
 refine c_t.trans ?_
 refine (Qh5 _ _ _ (Nat.le_trans hs.pg (by decide)) _).trans ?_
 generalize setB x.2.2.2.2.2.2.1 1 999999 = a
 cases a with
 | false => rfl
 | true =>
 refine c_f.trans ?_
 generalize decide ((64 : Int) < x.2.2.2.2.2.2.1.length) = a
 cases a with
 | true => rfl
 | false =>
 refine c_f.trans ?_
 refine (Qae _ (Nat.le_trans hs.su (by decide)) _).trans ?_
 generalize setB x.2.2.2.2.2.2.2.2.2.1 0 31 = a
 cases a with
 | false => rfl
 | true =>
 refine c_f.trans ?_
 by_cases h4 : x.2.1 = 4
 ·simp only [decide_eq_true h4]
  refine c_t.trans ?_
  refine (Qbp _ _).trans ?_
  generalize inB x.2.2.2.2.2.2.2.2.2.2.2 1 999999 = a
  cases a with
  | false => rfl
  | true =>
  refine c_f.trans ?_
  by_cases h5 : x.2.2.2.2.2.2.2.2.2.2.2 = x.1
  ·simp only [decide_eq_true h5]
   first | rfl | (simp only [zq13r, zq13u, Q0]; done) | (simp only [zq13r, zq13u, Q0]; rfl)
  ·simp only [decide_eq_false h5]
   refine c_f.trans ?_
   refine c_f.trans ?_
   exact h2 _
 ·simp only [decide_eq_false h4]
  refine c_f.trans ?_
  refine c_t.trans ?_
  by_cases h5 : x.2.2.2.2.2.2.2.2.2.2.2 = 0
  ·simp only [decide_eq_true h5]
   refine c_f.trans ?_
   exact h2 _
  ·simp only [decide_eq_false h5]
   first | rfl | (simp only [zq13r, zq13u, Q0]; done) | (simp only [zq13r, zq13u, Q0]; rfl)
theorem Qjj {x : Inc} (hl : x.2.2.2.2.2.2.2.1.length ≤ 100000) (ht : ∀ t ∈ x.2.2.2.2.2.2.2.1, t.1.length ≤ 100000) (k1 : zqbf β) (k2 : zqbg β) :
  zqbu k1 k2 0 x = cond (x.2.2.2.2.2.2.2.1.all (Q2h x.2.2.2.1)) (k2 x) (k1 false) := by
 unfold zqbu
 rw [Q0]
 exact Qk (fun m i => zqbs m k1 k2 i x) (Q2h x.2.2.2.1) _ _ ([], (0, (0, 0))) x.2.2.2.2.2.2.2.1 fuel (Q3 (by omega))
  (fun m i hi => by
   have h1 := ht _ (Q14 (d := (([], (0, (0, 0))) : Q6l)) hi)
   simp (disch := omega) only [zqbt, zqbr, Qt, Q69, Q6a, Q8, Q6, i64_in, Int.toNat_natCast]
   unfold Q2h
   cases Q2r (x.2.2.2.2.2.2.2.1.getD i ([], (0, (0, 0)))).1 <;> cases Qs (x.2.2.2.2.2.2.2.1.getD i ([], (0, (0, 0)))).2.1 <;> cases inB (x.2.2.2.2.2.2.2.1.getD i ([], (0, (0, 0)))).2.2.1 x.2.2.2.1 8589934592 <;> cases decide ((x.2.2.2.2.2.2.2.1.getD i ([], (0, (0, 0)))).2.2.2 = -1) <;> cases inB (x.2.2.2.2.2.2.2.1.getD i ([], (0, (0, 0)))).2.2.2 (x.2.2.2.2.2.2.2.1.getD i ([], (0, (0, 0)))).2.2.1 8589934592 <;> rfl)
  (fun m => by simp (disch := omega) only [zqbt, zqbr, Qa])
theorem Qmw {x : Inc} (hl : x.2.2.2.2.2.2.2.2.1.length ≤ 100000) (ht : ∀ t ∈ x.2.2.2.2.2.2.2.2.1, t.2.2.1.length ≤ 100000) (hu : ∀ t ∈ x.2.2.2.2.2.2.2.2.1, t.2.2.2.length ≤ 100000) (o : Int) (k1 : zqbj β) (k2 : zqbk β) :
  zqbz k1 k2 o 0 x = cond (updB x.2.2.2.2.2.2.2.2.1 o) (k2 x) (k1 false) := by
 unfold zqbz
 rw [Q0]
 exact Q2a x.2.2.2.2.2.2.2.2.1.length (uAt x.2.2.2.2.2.2.2.2.1 o) (updI x.2.2.2.2.2.2.2.2.1 o) (fun m i s => zqbx m k1 k2 s i x) _ _ fuel (Q3 (by omega))
  (fun m i hi => by
   have h1 := ht _ (Q14 (d := ((0, (0, ([], []))) : IUpd)) hi)
   have h2 := hu _ (Q14 (d := ((0, (0, ([], []))) : IUpd)) hi)
   have e : uAt x.2.2.2.2.2.2.2.2.1 o (i + 1) = (x.2.2.2.2.2.2.2.2.1.getD i (0, (0, ([], [])))).1 := by unfold uAt; rw [if_neg (by omega)]; rfl
   simp (disch := omega) only [zqby, zqbw, Qt, Q9s, Q6a, Q94, Q8, Q6, i64_in, Int.toNat_natCast]
   rw [e]
   unfold updI
   generalize x.2.2.2.2.2.2.2.2.1.getD i (0, (0, ([], []))) = t
   cases inB t.1 (uAt x.2.2.2.2.2.2.2.2.1 o i) 8589934592 <;> cases inB t.2.1 0 4 <;> cases Q2r t.2.2.1 <;> cases setB t.2.2.2 0 31 <;> rfl)
  (fun m => by simp (disch := omega) only [zqby, zqbw, Qa])
theorem Qmx {x : Inc} (hl : x.2.2.2.2.2.2.2.2.2.2.1.length ≤ 100000) (o : Int) (k1 : zqbn β) (k2 : zqbo β) :
  zqc4 k1 k2 o 0 0 x = cond (chgB x.2.2.2.2.2.2.2.2.2.2.1 o) (k2 (cSt x.2.2.2.2.2.2.2.2.2.2.1 x.2.2.2.2.2.2.2.2.2.2.1.length) x) (k1 false) := by
 unfold zqc4
 rw [Q0]
 exact Q2a x.2.2.2.2.2.2.2.2.2.2.1.length (fun i => (cAt x.2.2.2.2.2.2.2.2.2.2.1 o i, cSt x.2.2.2.2.2.2.2.2.2.2.1 i)) (chgI x.2.2.2.2.2.2.2.2.2.2.1 o) (fun m i s => zqc2 m k1 k2 s.1 s.2 i x) _ _ fuel (Q3 (by omega))
  (fun m i hi => by
   have e : cAt x.2.2.2.2.2.2.2.2.2.2.1 o (i + 1) = (x.2.2.2.2.2.2.2.2.2.2.1.getD i (0, (0, 0))).1 := by unfold cAt; rw [if_neg (by omega)]; rfl
   have e2 : cSt x.2.2.2.2.2.2.2.2.2.2.1 (i + 1) = (x.2.2.2.2.2.2.2.2.2.2.1.getD i (0, (0, 0))).2.1 := by unfold cSt; rw [if_neg (by omega)]; rfl
   simp (disch := omega) only [zqc3, zqc1, Qt, Q69, Q94, Q8, Q6, i64_in, Int.toNat_natCast]
   rw [e, e2]
   unfold chgI
   cases inB (x.2.2.2.2.2.2.2.2.2.2.1.getD i (0, (0, 0))).1 (cAt x.2.2.2.2.2.2.2.2.2.2.1 o i) 8589934592 <;> cases inB (x.2.2.2.2.2.2.2.2.2.2.1.getD i (0, (0, 0))).2.1 0 4 <;> cases decide ((x.2.2.2.2.2.2.2.2.2.2.1.getD i (0, (0, 0))).2.1 = cSt x.2.2.2.2.2.2.2.2.2.2.1 i) <;> cases Qs (x.2.2.2.2.2.2.2.2.2.2.1.getD i (0, (0, 0))).2.2 <;> rfl)
  (fun m => by simp (disch := omega) only [zqc3, zqc1, Qa])
theorem Qjk {x : Inc} (hs : SizedI x) (k : Bool → Option β) : zqc7 x k = k (x.ts.all (Q2h x.op) && (updB x.up x.op && (chgB x.ch x.op && decide (cSt x.ch x.ch.length = x.st)))) := by
 unfold zqc7
 rw [Q0]
 unfold zqc6
 refine (Qjj hs.ts hs.tt _ _).trans ?_
 generalize x.ts.all (Q2h x.op) = a
 cases a with
 | false => rfl
 | true =>
 refine c_t.trans ?_
 refine (Qmw hs.up hs.ut hs.ul x.op _ _).trans ?_
 generalize updB x.up x.op = a
 cases a with
 | false => rfl
 | true =>
 refine c_t.trans ?_
 refine (Qmx hs.ch x.op _ _).trans ?_
 generalize chgB x.ch x.op = a
 cases a with
 | false => rfl
 | true => rfl
theorem Qjl {x : Inc} (k1 : zqqc β) (k2 : zqqd β) :
  zqqn k1 k2 0 x = cond (Qs x.2.2.2.2.2.1.1 && (Qs x.2.2.2.2.2.1.2.1 && Qs x.2.2.2.2.2.1.2.2)) (k2 x) (k1 false) := by
 unfold zqqn
 rw [Q0]
 have h := Qk (fun m i => zqql m k1 k2 i x) Qs (k1 false) (k2 x) 0 [x.2.2.2.2.2.1.1, x.2.2.2.2.2.1.2.1, x.2.2.2.2.2.1.2.2] fuel (Q3 (by simp))
  (fun m i hi => by
   have hi : i < 3 := hi
   have hc : i = 0 ∨ i = 1 ∨ i = 2 := by omega
   rcases hc with rfl | rfl | rfl
   ·simp (disch := omega) only [zqqm, zqqk, Q69, Q8, Q32, i64_in]
    rfl
   ·simp (disch := omega) only [zqqm, zqqk, Q69, Q8, Qa, Q32, i64_in]
    rfl
   ·simp (disch := omega) only [zqqm, zqqk, Q69, Q8, Qa, Q32, i64_in]
    rfl)
  (fun m => by simp (disch := first | omega | (simp; omega)) only [zqqm, zqqk, List.length_cons, List.length_nil, Qa])
 refine h.trans ?_
 simp only [List.all_cons, List.all_nil, Bool.and_true]
theorem Qjm {x : Inc} (hl : x.2.2.2.2.2.2.1.length ≤ 100000) (k1 : zqqg β) (k2 : zqqh β) :
  zqqs k1 k2 0 x = cond (setB x.2.2.2.2.2.2.1 1 999999) (k2 x) (k1 false) := by
 unfold zqqs
 rw [Q0]
 exact Q2a x.2.2.2.2.2.2.1.length (fun _ => ()) (setI x.2.2.2.2.2.2.1 1 999999) (fun m i _ => zqqq m k1 k2 i x) _ _ fuel (Q3 (by omega))
  (fun m i hi' => by
   simp (disch := omega) only [zqqr, zqqp, Qt, Q8, Q6, i64_in, Int.toNat_natCast]
   unfold setI
   cases inB (x.2.2.2.2.2.2.1.getD i 0) 1 999999 with
   | false => rfl
   | true =>
    cases i with
    | zero => rfl
    | succ j =>
     refine c_f.trans ?_
     refine (Q8 (by omega)).trans ?_
     have e : ((((j + 1 : Nat)) : Int) - 1) = (j : Int) := by omega
     rw [e]
     refine (Q6 (by omega)).trans ?_
     rw [Int.toNat_natCast, decide_eq_true (show 0 < j + 1 by omega), show j + 1 - 1 = j by omega]
     cases decide (x.2.2.2.2.2.2.1.getD (j + 1) 0 ≤ x.2.2.2.2.2.2.1.getD j 0) <;> rfl)
  (fun m => by simp (disch := omega) only [zqqr, zqqp, Qa])
theorem Qjn {n : Nat} {q : Nat → Bool} (h : (List.range n).all q = true) {i : Nat} (hi : i < n) : q i = true := List.all_eq_true.1 h i (List.mem_range.2 hi)
theorem Qjo {l : List IChg} {o : Int} (h : chgB l o = true) : 0 ≤ cSt l l.length ∧ cSt l l.length ≤ 4 := by
 unfold cSt
 by_cases h0 : l.length = 0
 ·rw [if_pos h0]; omega
 ·rw [if_neg h0]
  have := Qjn h (i := l.length - 1) (by omega)
  unfold chgI at this
  simp only [Bool.and_eq_true, Q2y] at this
  exact this.2.1
def Qbq (x : Inc) : Bool :=
 inB x.id 1 999999 && (inB x.st 0 4 && (inB x.sev 1 5 && (inB x.op 0 8589934592 && (Q2r x.ti && ((Qs x.ro.1 && (Qs x.ro.2.1 && Qs x.ro.2.2)) && (setB x.pg 1 999999 && (!decide ((64 : Int) < x.pg.length) && (!decide ((16 : Int) < x.ts.length) && (!decide ((32 : Int) < x.up.length) && (!decide ((32 : Int) < x.ch.length) &&
  (setB x.su 0 31 && ((x.ts.all (Q2h x.op) && (updB x.up x.op && (chgB x.ch x.op && decide (cSt x.ch x.ch.length = x.st)))) &&
  (cond (decide (x.st = 4)) (inB x.in 1 999999 && !decide (x.in = x.id)) (decide (x.in = 0)))))))))))))))
theorem Qie {x : Inc} (hs : SizedI x) (k : Bool → Option β) : zqqv x k = k (Qbq x) := by
 unfold zqqv
 rw [Q0]
 unfold zqqu Qbq
 refine (Qt _ _ _ _).trans ?_
 generalize inB x.1 1 999999 = a
 cases a with
 | false => rfl
 | true =>
 refine c_f.trans ?_
 refine (Q94 _ _).trans ?_
 generalize inB x.2.1 0 4 = a
 cases a with
 | false => rfl
 | true =>
 refine c_f.trans ?_
 refine (Qt _ _ _ _).trans ?_
 generalize inB x.2.2.1 1 5 = a
 cases a with
 | false => rfl
 | true =>
 refine c_f.trans ?_
 refine (Qt _ _ _ _).trans ?_
 generalize inB x.2.2.2.1 0 8589934592 = a
 cases a with
 | false => rfl
 | true =>
 refine c_f.trans ?_
 refine (Q6a _ (Nat.le_trans hs.ti (by decide)) _).trans ?_
 generalize Q2r x.2.2.2.2.1 = a
 cases a with
 | false => rfl
 | true =>
 refine c_f.trans ?_
 refine (Qjl _ _).trans ?_
 generalize (Qs x.2.2.2.2.2.1.1 && (Qs x.2.2.2.2.2.1.2.1 && Qs x.2.2.2.2.2.1.2.2)) = a
 cases a with
 | false => rfl
 | true =>
 refine c_t.trans ?_
 refine (Qjm hs.pg _ _).trans ?_
 generalize setB x.2.2.2.2.2.2.1 1 999999 = a
 cases a with
 | false => rfl
 | true =>
 refine c_t.trans ?_
 generalize decide ((64 : Int) < x.2.2.2.2.2.2.1.length) = a
 cases a with
 | true => rfl
 | false =>
 refine c_f.trans ?_
 generalize decide ((16 : Int) < x.2.2.2.2.2.2.2.1.length) = a
 cases a with
 | true => rfl
 | false =>
 refine c_f.trans ?_
 generalize decide ((32 : Int) < x.2.2.2.2.2.2.2.2.1.length) = a
 cases a with
 | true => rfl
 | false =>
 refine c_f.trans ?_
 generalize decide ((32 : Int) < x.2.2.2.2.2.2.2.2.2.2.1.length) = a
 cases a with
 | true => rfl
 | false =>
 refine c_f.trans ?_
 refine (Q9s _ (Nat.le_trans hs.su (by decide)) _).trans ?_
 generalize setB x.2.2.2.2.2.2.2.2.2.1 0 31 = a
 cases a with
 | false => rfl
 | true =>
 refine c_f.trans ?_
 refine (Qjk (x := x) hs _).trans ?_
 generalize (x.ts.all (Q2h x.op) && (updB x.up x.op && (chgB x.ch x.op && decide (cSt x.ch x.ch.length = x.st)))) = a
 cases a with
 | false => rfl
 | true =>
 refine c_f.trans ?_
 by_cases h4 : x.2.1 = 4
 ·simp only [decide_eq_true h4]
  refine c_t.trans ?_
  refine (Qt _ _ _ _).trans ?_
  generalize inB x.2.2.2.2.2.2.2.2.2.2.2 1 999999 = a
  cases a <;> rfl
 ·simp only [decide_eq_false h4]
  first | rfl | (simp only [zqqn, zqqs, Q0]; done) | (simp only [zqqn, zqqs, Q0]; rfl)
theorem Qjp (x : Inc) : Qbq x = Q49 x := by
 rw [Bool.eq_iff_iff]
 unfold Qbq Q49
 simp only [Bool.and_eq_true, Bool.not_eq_true', decide_eq_true_eq, decide_eq_false_iff_not]
 constructor
 ·rintro ⟨a1, a2, a3, a4, a5, a6, a7, a8, a9, a10, a11, a12, ⟨b1, b2, b3, b4⟩, c⟩
  exact ⟨a1, a3, a4, a5, a6, a7, a8, a12, c, ⟨b1, by omega⟩, ⟨b2, by omega⟩, b3, by omega, b4.symm⟩
 ·rintro ⟨a1, a3, a4, a5, a6, a7, a8, a12, c, ⟨b1, b1'⟩, ⟨b2, b2'⟩, b3, b3', b4⟩
  have := Qjo b3
  exact ⟨a1, Q2y.2 (by omega), a3, a4, a5, a6, a7, a8, by omega, by omega, by omega, a12, ⟨b1, b2, b3, b4.symm⟩, c⟩
theorem Q6m {x : Inc} (hs : SizedI x) (k : Bool → Option β) : zqqv x k = k (Q49 x) := by rw [Qie hs, Qjp]
end
end
end Go.Lift
namespace Go.Lift
open Go.RowKit Go.IntWalk
noncomputable section
set_option linter.unusedVariables false
set_option linter.unusedSimpArgs false
set_option maxRecDepth 10000
def Q6n : List Int → Int → List Int
 | [], x => [x]
 | y :: l, x => if x ≤ y then x :: (y :: l).filter (fun z => !decide (z = x)) else y :: Q6n l x
theorem Qd4 (x : Int) : ∀ l : List Int, (Q6n l x).length ≤ l.length + 1
 | [] => by simp [Q6n]
 | y :: l => by
  unfold Q6n
  by_cases h : x ≤ y
  ·rw [if_pos h, List.length_cons]
   have := List.length_filter_le (fun z => !decide (z = x)) (y :: l)
   omega
  ·rw [if_neg h, List.length_cons, List.length_cons]
   have := Qd4 x l
   omega
end
end Go.Lift
namespace Go.Lift
open Go.RowKit Go.IntWalk
noncomputable section
set_option linter.unusedVariables false
set_option linter.unusedSimpArgs false
set_option maxRecDepth 10000
def Q2s (x : Int) (s : Bool × List Int) (y : Int) : Bool × List Int :=
 if s.1 = false ∧ x ≤ y then (true, (s.2 ++ [x]) ++ (if y = x then [] else [y])) else (s.1, s.2 ++ (if y = x then [] else [y]))
theorem Qmy (x y : Int) (o : List Int) : Q2s x (true, o) y = (true, o ++ (if y = x then [] else [y])) := by
 show (if true = false ∧ x ≤ y then _ else _) = _
 rw [if_neg (fun h => Bool.noConfusion h.1)]
theorem Ql4 {x y : Int} (o : List Int) (h : x ≤ y) : Q2s x (false, o) y = (true, (o ++ [x]) ++ (if y = x then [] else [y])) := by
 show (if false = false ∧ x ≤ y then _ else _) = _
 rw [if_pos ⟨rfl, h⟩]
theorem Ql5 {x y : Int} (o : List Int) (h : ¬ x ≤ y) : Q2s x (false, o) y = (false, o ++ (if y = x then [] else [y])) := by
 show (if false = false ∧ x ≤ y then _ else _) = _
 rw [if_neg (fun g => h g.2)]
theorem Qbr (x : Int) : ∀ (l o : List Int), l.foldl (Q2s x) (true, o) = (true, o ++ l.filter (fun z => !decide (z = x)))
 | [], o => by simp
 | y :: l, o => by
  have e : Q2s x (true, o) y = (true, o ++ (if y = x then [] else [y])) := by unfold Q2s; rw [if_neg (by simp)]
  rw [List.foldl_cons, e, Qbr x l, List.filter_cons]
  by_cases h : y = x <;> simp [h]
theorem Qbs (x : Int) : ∀ (l o : List Int), (if (l.foldl (Q2s x) (false, o)).1 then (l.foldl (Q2s x) (false, o)).2 else (l.foldl (Q2s x) (false, o)).2 ++ [x]) = o ++ Q6n l x
 | [], o => by simp [Q6n]
 | y :: l, o => by
  unfold Q6n
  by_cases h : x ≤ y
  ·have e : Q2s x (false, o) y = (true, (o ++ [x]) ++ (if y = x then [] else [y])) := by unfold Q2s; rw [if_pos ⟨rfl, h⟩]
   rw [List.foldl_cons, e, Qbr x l, if_pos h, List.filter_cons]
   by_cases h : y = x <;> simp [h]
  ·have e : Q2s x (false, o) y = (false, o ++ [y]) := by unfold Q2s; rw [if_neg (by simp; omega), if_neg (by omega)]
   rw [List.foldl_cons, e, Qbs x l, if_neg h]
   simp
section
variable {β : Type}
theorem Ql6 (l : List Int) (hl : l.length ≤ 100000) (x : Int) (k : List Int → Option β) : zq7c l x k = k (Q6n l x) := by
 unfold zq7c
 rw [Q0]
 unfold zq7b
 unfold zq79
 rw [Q0]
 have h := Q1i (fun i (s : Bool × List Int) => s.2.length ≤ 2 * i) (fun m i s => zq77 m (fun (x2 : Int) (done : Bool) (out : List Int) =>
  cond (!done)
  (let l2 : List Int := ([x2] : List Int);
  cond (decide ((List.length out + List.length l2) * 8 ≤ Q5))
  (let l3 : List Int := (out ++ l2);
  k l3)
  none)
  (k out)) l x s.1 i s.2) (Q2s x) (fun s => k (if s.1 then s.2 else s.2 ++ [x])) 0 l (false, []) fuel (Q3 (by omega)) (by simp)
  (fun i s hi hI => by
   unfold Q2s
   by_cases h1 : s.1 = false ∧ x ≤ l.getD i 0
   ·rw [if_pos h1]
    by_cases h2 : l.getD i 0 = x <;> simp only [h2, if_true, if_false, List.length_append, List.length_cons, List.length_nil] <;> omega
   ·rw [if_neg h1]
    by_cases h2 : l.getD i 0 = x <;> simp only [h2, if_true, if_false, List.length_append, List.length_cons, List.length_nil] <;> omega)
  (fun m i s hi hI => by
   obtain ⟨done, out⟩ := s
   have hI : out.length ≤ 2 * i := hI
   have ew : IntKind.i64.wrap ((i : Int) + 1) = (i : Int) + 1 := i64_in _ (by omega)
   have p1 : ∀ (k1 : zq70 β) (b : Bool) (o : List Int), o.length ≤ 2 * i + 1 → zq74 k1 l x b (i : Int) o = k1 l x b (i : Int) (o ++ (if l.getD i 0 = x then [] else [l.getD i 0])) := fun k1 b o ho => by
    unfold zq74
    rw [Q0]
    unfold zq73
    refine (Q6 (by omega)).trans ?_
    dsimp only
    rw [Int.toNat_natCast]
    by_cases h2 : l.getD i 0 = x
    ·rw [if_pos h2, List.append_nil]
     exact Q3f h2
    ·rw [if_neg h2]
     refine (Q1d h2).trans ?_
     refine (Q6 (by omega)).trans ?_
     exact Q1c (by simp only [List.length_cons, List.length_nil]; omega)
   rw [zq78]
   unfold zq76
   refine (Q8 (by omega)).trans ?_
   cases done with
   | true =>
    refine c_f.trans ?_
    refine (p1 _ _ _ (by omega)).trans ?_
    simp only [ew]
    rw [Qmy]
   | false =>
    refine c_t.trans ?_
    refine (Q6 (by omega)).trans ?_
    dsimp only
    rw [Int.toNat_natCast]
    by_cases h1 : x ≤ l.getD i 0
    ·refine (Q8 h1).trans ?_
     refine (Q1c (by simp only [List.length_cons, List.length_nil]; omega)).trans ?_
     refine (p1 _ _ _ (by simp only [List.length_append, List.length_cons, List.length_nil]; omega)).trans ?_
     simp only [ew]
     rw [Ql4 _ h1]
    ·refine (Qa h1).trans ?_
     refine (p1 _ _ _ (by omega)).trans ?_
     simp only [ew]
     rw [Ql5 _ h1])
  (fun m s hI => by
   obtain ⟨done, out⟩ := s
   have hI : out.length ≤ 2 * l.length := hI
   rw [zq78]
   unfold zq76
   refine (Qa (by omega)).trans ?_
   cases done with
   | true => rfl
   | false =>
    refine c_t.trans ?_
    exact Q1c (by simp only [List.length_cons, List.length_nil]; omega))
 refine h.trans ?_
 show k _ = k _
 have := Qbs x l []
 rw [List.nil_append] at this
 rw [← this]
theorem Q40 (l : List Int) (hl : l.length ≤ 100000) (x : Int) (k : Bool → Option β) : zq4i l x k = k (decide (x ∈ l)) := by
 unfold zq4i
 rw [Q0]
 unfold zq4h
 unfold zq4f
 rw [Q0]
 refine (Qk (fun m i => zq4d m (fun t => k t) (fun _ => k false) l x i) (fun y => !decide (y = x)) (k true) (k false) 0 l fuel (Q3 (by omega)) (fun m i hi => ?_) (fun m => ?_)).trans ?_
 ·simp (disch := omega) only [zq4e, zq4c, Q8, Q6, i64_in, Int.toNat_natCast]
  cases decide (l.getD i 0 = x) <;> rfl
 ·simp (disch := omega) only [zq4e, zq4c, Qa]
 ·by_cases h : x ∈ l
  ·have : l.all (fun y => !decide (y = x)) = false := by
    rw [List.all_eq_false]
    exact ⟨x, h, by simp⟩
   rw [this, decide_eq_true h]
   first | rfl | (simp only [zq4f, Q0]; done) | (simp only [zq4f, Q0]; rfl)
  ·have : l.all (fun y => !decide (y = x)) = true := by
    rw [List.all_eq_true]
    intro y hy
    have : y ≠ x := fun e => h (e ▸ hy)
    simp [this]
   rw [this, decide_eq_false h]
   first | rfl | (simp only [zq4f, Q0]; done) | (simp only [zq4f, Q0]; rfl)
theorem Q3s {x : Inc} (hs : SizedI x) (k : Int → Int → Int → Int → List UInt8 → Int → Int → Int → Int → List Int → List Q6l → List IUpd → List Int → List IChg → Option β) :
  zq5y x k = k x.1 x.2.1 x.2.2.1 x.2.2.2.1 x.2.2.2.2.1 x.2.2.2.2.2.1.1 x.2.2.2.2.2.1.2.1 x.2.2.2.2.2.1.2.2 x.2.2.2.2.2.2.2.2.2.2.2 x.2.2.2.2.2.2.1 x.2.2.2.2.2.2.2.1 x.2.2.2.2.2.2.2.2.1 x.2.2.2.2.2.2.2.2.2.1 x.2.2.2.2.2.2.2.2.2.2.1 := by
 have hp1 : ∀ (x9 : List IUpd), x9.length ≤ 100000 → (∀ u ∈ x9, u.2.2.2.length ≤ 100000) → ∀ (k1 : zq5p β) x x2 x3 x4 x5 x6 x7 x8 x10 t2 b3_ b4_ b5_ b6_,
   zq5v k1 0 x x2 x3 x4 x5 x6 x7 x8 x9 x10 t2 [] b3_ b4_ b5_ b6_ = k1 x x2 x3 x4 x5 x6 x7 x8 x9 x10 t2 x9 b3_ b4_ b5_ b6_ := by
  intro x9 hl hu k1 x x2 x3 x4 x5 x6 x7 x8 x10 t2 b3_ b4_ b5_ b6_
  unfold zq5v
  rw [Q0]
  have h := Q2a x9.length (fun i => x9.take i) (fun _ => true) (fun m i s => zq5t m k1 i x x2 x3 x4 x5 x6 x7 x8 x9 x10 t2 s b3_ b4_ b5_ b6_) (k1 x x2 x3 x4 x5 x6 x7 x8 x9 x10 t2 x9 b3_ b4_ b5_ b6_) none fuel (Q3 (by omega))
   (fun m i hi => by
    have h1 := hu _ (Q14 (d := ((0, (0, ([], []))) : IUpd)) hi)
    have e : x9.take (i + 1) = x9.take i ++ [x9.getD i (0, (0, ([], [])))] := by
     rw [List.take_add_one, List.getElem?_eq_getElem hi]
     simp [List.getD, hi]
    rw [zq5u]
    unfold zq5s
    refine (Q8 (by omega)).trans ?_
    refine (Q6 (by omega)).trans ?_
    dsimp only
    rw [Int.toNat_natCast]
    refine (Q1c (by omega)).trans ?_
    refine (Q1c (by simp only [List.length_cons, List.length_nil, List.length_take]; omega)).trans ?_
    rw [i64_in ((i : Int) + 1) (by omega), e]
    rfl)
   (fun m => by
    rw [zq5u]
    unfold zq5s
    refine (Qa (by omega)).trans ?_
    rw [List.take_length])
  refine h.trans ?_
  have : (List.range x9.length).all (fun _ => true) = true := by simp
  rw [this]
  rfl
 have h1 := hs.pg
 have h2 := hs.ts
 have h3 := hs.su
 have h4 := hs.ch
 unfold zq5y
 rw [Q0]
 unfold zq5x
 refine (Q1c (Nat.le_trans (Nat.mul_le_mul_right 8 h1) (by decide))).trans ?_
 refine (Q1c (Nat.le_trans (Nat.mul_le_mul_right 40 h2) (by decide))).trans ?_
 refine (Q1c (Nat.le_trans (Nat.mul_le_mul_right 8 h3) (by decide))).trans ?_
 refine (Q1c (Nat.le_trans (Nat.mul_le_mul_right 24 h4) (by decide))).trans ?_
 exact hp1 _ hs.up hs.ul _ _ _ _ _ _ _ _ _ _ _ _ _ _ _
end
end
end Go.Lift
namespace Go.Lift
open Go.RowKit Go.IntWalk
noncomputable section
set_option linter.unusedVariables false
set_option linter.unusedSimpArgs false
set_option maxRecDepth 10000
theorem Qif {x : Inc} : Q49 x = true ↔
  (1 ≤ x.id ∧ x.id ≤ 999999) ∧ (1 ≤ x.sev ∧ x.sev ≤ 5) ∧ (0 ≤ x.op ∧ x.op ≤ 8589934592) ∧ Q2r x.ti = true ∧ (Qs x.ro.1 = true ∧ Qs x.ro.2.1 = true ∧ Qs x.ro.2.2 = true) ∧ setB x.pg 1 999999 = true ∧ x.pg.length ≤ 64 ∧ setB x.su 0 31 = true ∧
  (cond (decide (x.st = 4)) (inB x.in 1 999999 && !decide (x.in = x.id)) (decide (x.in = 0))) = true ∧ (x.ts.all (Q2h x.op) = true ∧ x.ts.length ≤ 16) ∧ (updB x.up x.op = true ∧ x.up.length ≤ 32) ∧ chgB x.ch x.op = true ∧ x.ch.length ≤ 32 ∧ x.st = cSt x.ch x.ch.length := by
 unfold Q49
 simp only [Bool.and_eq_true, Bool.not_eq_true', decide_eq_true_eq, decide_eq_false_iff_not, Q2y]
 constructor
 ·rintro ⟨a1, a2, a3, a4, a5, a6, a7, a8, a9, a10, a11, a12, a13, a14⟩
  exact ⟨a1, a2, a3, a4, a5, a6, by omega, a8, a9, ⟨a10.1, by omega⟩, ⟨a11.1, by omega⟩, a12, by omega, a14⟩
 ·rintro ⟨a1, a2, a3, a4, a5, a6, a7, a8, a9, a10, a11, a12, a13, a14⟩
  exact ⟨a1, a2, a3, a4, a5, a6, by omega, a8, a9, ⟨a10.1, by omega⟩, ⟨a11.1, by omega⟩, a12, by omega, a14⟩
theorem Qf7 {l : List IChg} {o : Int} (h : chgB l o = true) {i : Nat} (hi : i < l.length) : cAt l o i ≤ cAt l o (i + 1) ∧ cAt l o (i + 1) = (l.getD i (0, (0, 0))).1 ∧ cAt l o (i + 1) ≤ 8589934592 := by
 have := Qjn h hi
 unfold chgI at this
 simp only [Bool.and_eq_true, Q2y] at this
 have e : cAt l o (i + 1) = (l.getD i (0, (0, 0))).1 := by unfold cAt; rw [if_neg (by omega)]; rfl
 exact ⟨by omega, e, by omega⟩
theorem Qf8 {l : List IChg} {o : Int} (h : chgB l o = true) : ∀ i, i ≤ l.length → o ≤ cAt l o i
 | 0, _ => by unfold cAt; rw [if_pos rfl]; omega
 | i + 1, hi => by have := Qf8 h i (by omega); have := Qf7 h (i := i) (by omega); omega
theorem Qd5 {α : Type} {l : List α} {i : Nat} (hi : i < l.length) (d : α) : l.take (i + 1) = l.take i ++ [l.getD i d] := by
 rw [List.take_add_one, List.getElem?_eq_getElem hi]
 simp [List.getD, hi]
section
variable {β : Type}
def Qm8 (st to : Int) : Bool := (decide (st = 0) && (decide (to = 1) || (decide (to = 2) || decide (to = 4)))) || ((decide (st = 1) && (decide (to = 0) || (decide (to = 2) || decide (to = 4)))) || (decide (st = 2) && (decide (to = 0) || decide (to = 3))))
theorem Ql7 (st to : Int) (k : Bool → Option β) : zq6c st to k = k (Qm8 st to) := by
 unfold zq6c
 rw [Q0]
 unfold zq6b Qm8
 by_cases h0 : st = 0
 ·subst h0
  cases decide (to = 1) <;> cases decide (to = 2) <;> cases decide (to = 4) <;> rfl
 ·rw [decide_eq_false h0]
  by_cases h1 : st = 1
  ·subst h1
   cases decide (to = 0) <;> cases decide (to = 2) <;> cases decide (to = 4) <;> rfl
  ·rw [decide_eq_false h1]
   by_cases h2 : st = 2
   ·subst h2
    cases decide (to = 0) <;> cases decide (to = 3) <;> rfl
   ·rw [decide_eq_false h2]
    rfl
theorem Qf9 (l : List Int) (hl : l.length ≤ 100000) (x : Int) (k : Bool → Option β) : zqq8 l x k = k (decide (x ∈ l)) := by
 unfold zqq8
 rw [Q0]
 unfold zqq7
 unfold zqau
 rw [Q0]
 unfold zqat
 unfold zqar
 rw [Q0]
 refine (Qk (fun m i => zqap m (fun t4 => (fun (r : Int) => k (decide ((0 : Int) ≤ r))) t4) (fun _ => (fun (r : Int) => k (decide ((0 : Int) ≤ r))) (-1 : Int)) l x (l.length : Int) i) (fun y => !decide (x = y)) (k true) (k false) 0 l fuel (Q3 (by omega)) (fun m i hi => ?_) (fun m => ?_)).trans ?_
 ·simp (disch := omega) only [zqaq, zqao, Q8, Q6, i64_in, Int.toNat_natCast]
  rw [decide_eq_true (show (0 : Int) ≤ (i : Int) by omega)]
  cases decide (x = l.getD i 0) <;> rfl
 ·simp (disch := omega) only [zqaq, zqao, Qa]
  first | rfl | (simp only [zqar, Q0]; done) | (simp only [zqar, Q0]; rfl)
 ·by_cases h : x ∈ l
  ·have : l.all (fun y => !decide (x = y)) = false := by
    rw [List.all_eq_false]
    exact ⟨x, h, by simp⟩
   rw [this, decide_eq_true h]
   first | rfl | (simp only [zqar, Q0]; done) | (simp only [zqar, Q0]; rfl)
  ·have : l.all (fun y => !decide (x = y)) = true := by
    rw [List.all_eq_true]
    intro y hy
    have : ¬ x = y := fun e => h (e ▸ hy)
    simp [this]
   rw [this, decide_eq_false h]
   first | rfl | (simp only [zqar, Q0]; done) | (simp only [zqar, Q0]; rfl)
end
end
end Go.Lift
namespace Go.Lift
open Go.RowKit Go.IntWalk
noncomputable section
set_option linter.unusedVariables false
set_option linter.unusedSimpArgs false
abbrev Dice := List Int × Int
def Q9 (d : Dice) : Prop := 0 ≤ d.2 ∧ d.2 ≤ d.1.length ∧ d.1.length ≤ 500
theorem Ql8 {β : Type} (l : List Int) (k : Bool → Option β) : zq1k l k = k (decide ((l.length : Int) ≤ 500)) := by
 simp only [zq1k, Q0, zq1j]
theorem Qmz {β : Type} (l : List Int) (k : Dice → Option β) : zq1o l k = k (l, 0) := by
 simp only [zq1o, Q0, zq1n]
theorem Qn0 {l : List Int} (h : (l.length : Int) ≤ 500) : Q9 (l, 0) := ⟨by simp, by simp, by show l.length ≤ 500; omega⟩
theorem Qh6 {n : Int} {d : Dice} (hd : Q9 d) (hn : 1 ≤ n ∧ n ≤ 4611686018427387904) :
  ∃ x d', 0 ≤ x ∧ x < n ∧ Q9 d' ∧ ∀ {β : Type} (k : Int → Dice → Option β), zq1s n d k = k x d' := by
 obtain ⟨h1, h2, h3⟩ := hd
 by_cases ha : (d.1.length : Int) ≤ d.2
 ·exact ⟨0, d, by omega, by omega, ⟨h1, h2, h3⟩, fun k => by simp (disch := omega) only [zq1s, Q0, zq1r, Q8]⟩
 ·generalize hv : List.getD d.1 (Int.toNat d.2) (0 : Int) = v
  have hm1 := Int.tmod_lt_of_pos v (show 0 < n by omega)
  have hm2 : -n < Int.tmod v n := by
   have h5 := Int.tmod_lt_of_pos (-v) (show 0 < n by omega)
   rw [Int.neg_tmod] at h5
   omega
  have hd' : Q9 (d.1, d.2 + 1) := ⟨by show (0 : Int) ≤ d.2 + 1; omega, by show d.2 + 1 ≤ (d.1.length : Int); omega, h3⟩
  by_cases hc : Int.tmod v n < 0
  ·refine ⟨Int.tmod v n + n, (d.1, d.2 + 1), by omega, by omega, hd', fun k => ?_⟩
   simp (disch := omega) only [zq1s, Q0, zq1r, hv, Q8, Qa, Q6, Q1d, i64_in]
  ·refine ⟨Int.tmod v n, (d.1, d.2 + 1), by omega, by omega, hd', fun k => ?_⟩
   simp (disch := omega) only [zq1s, Q0, zq1r, hv, Q8, Qa, Q6, Q1d, i64_in]
theorem Ql9 (n : Int) {d : Dice} (hd : Q9 d) (hn : n ≤ 4611686018427387904) :
  ∃ x d', (0 ≤ x ∧ (1 ≤ n → x < n) ∧ (n < 1 → x = 0)) ∧ Q9 d' ∧ ∀ {β : Type} (k : Int → Dice → Option β), zq1s n d k = k x d' := by
 by_cases h : 1 ≤ n
 ·obtain ⟨x, d', h1, h2, h3, h4⟩ := Qh6 hd ⟨h, hn⟩
  exact ⟨x, d', ⟨h1, fun _ => h2, by omega⟩, h3, h4⟩
 ·refine ⟨0, d, ⟨by omega, by omega, by omega⟩, hd, fun k => ?_⟩
  simp only [zq1s, Q0, zq1r]
  by_cases ha : (d.1.length : Int) ≤ d.2
  ·simp (disch := omega) only [Q8]
  ·simp (disch := omega) only [Q8, Qa]
end
end Go.Lift
namespace Go.Lift
open Go.RowKit Go.IntWalk
noncomputable section
set_option linter.unusedVariables false
set_option linter.unusedSimpArgs false
theorem Qnv {l : List Int} {d : Dice} (hl : 0 < l.length) (hlen : l.length ≤ 1000000) (hd : Q9 d) :
  ∃ x d', x ∈ l ∧ Q9 d' ∧ ∀ {β : Type} (k : Int → Dice → Option β), zq2a l d k = k x d' := by
 obtain ⟨x, d', h1, h2, hd', hf⟩ := Qh6 (n := (l.length : Int)) hd (by omega)
 have hxn : x.toNat < l.length := by omega
 refine ⟨l.getD x.toNat 0, d', ?_, hd', fun k => ?_⟩
 ·simp [List.getD, hxn]
 ·simp (disch := omega) only [zq2a, Q0, zq29, hf, Q6]
end
end Go.Lift
namespace Go.Lift
open Go.RowKit Go.IntWalk
noncomputable section
set_option linter.unusedVariables false
set_option linter.unusedSimpArgs false
set_option maxRecDepth 10000
section
variable {β : Type} {G : Option β → Prop}
theorem w_e {A B : Option β} (e : A = B) (h : G B) : G A := e ▸ h
theorem w_c {b : Bool} {A B : Option β} (h1 : b = true → G A) (h2 : b = false → G B) : G (cond b A B) := match b, h1, h2 with | true, h, _ => h rfl | false, _, h => h rfl
theorem w_nc {b : Bool} {A B : Option β} (h1 : b = false → G A) (h2 : b = true → G B) : G (cond (!b) A B) := match b, h1, h2 with | true, _, h => h rfl | false, h, _ => h rfl
theorem w_d {p : Prop} [Decidable p] {A B : Option β} (h1 : p → G A) (h2 : ¬ p → G B) : G (cond (decide p) A B) := w_c (fun h => h1 (of_decide_eq_true h)) (fun h => h2 (of_decide_eq_false h))
theorem w_nd {p : Prop} [Decidable p] {A B : Option β} (h1 : ¬ p → G A) (h2 : p → G B) : G (cond (!decide p) A B) := w_nc (fun h => h1 (of_decide_eq_false h)) (fun h => h2 (of_decide_eq_true h))
theorem w_i {i n : Int} {A B : Option β} (h : 0 ≤ i ∧ i < n) (h1 : G A) : G (cond (decide (0 ≤ i) && decide (i < n)) A B) := w_e (Q6 h) h1
theorem w_r {n : Nat} {A B : Option β} (h : n ≤ 140737488355328) (h1 : G A) : G (cond (decide (n ≤ Q5)) A B) := w_e (Q1c h) h1
theorem w_z {n : Int} {A B : Option β} (h : n ≠ 0) (h1 : G A) : G (cond (!decide (n = 0)) A B) := w_e (Q1d h) h1
theorem in_w {n lo hi : Int} {k : Bool → Option β} (h1 : lo ≤ n → n ≤ hi → G (k true)) (h2 : ¬ (lo ≤ n ∧ n ≤ hi) → G (k false)) : G (zq56 n lo hi k) := by
 refine w_e (Qt _ _ _ _) ?_
 cases h : inB n lo hi with
 | true => have := Q2y.1 h; exact h1 this.1 this.2
 | false => exact h2 (fun g => by rw [Q2y.2 g] at h; cases h)
theorem Qe8 {n lo hi : Int} {k : Bool → Option β} (h1 : lo ≤ n → n ≤ hi → G (k true)) (h2 : G (k false)) : G (zqlo n lo hi k) := by
 unfold zqlo
 rw [Q0]
 unfold zqln
 refine w_d (fun h => ?_) (fun _ => h2)
 by_cases g : n ≤ hi
 ·rw [decide_eq_true g]; exact h1 h g
 ·rw [decide_eq_false g]; exact h2
theorem Q4a {n lo hi : Int} {k : Bool → Option β} (hk : ∀ b, G (k b)) : G (zqkr n lo hi k) := by
 unfold zqkr
 rw [Q0]
 unfold zqkq
 repeat' first | exact hk _ | refine w_c (fun _ => ?_) (fun _ => ?_)
theorem Qnw {y : Int} {k : Int → Option β} (hk : ∀ n, G (k n)) : G (zqlk y k) := by
 unfold zqlk
 rw [Q0]
 unfold zqlj
 exact hk _
theorem Qfa {k : Int → Option β} (hk : ∀ n, G (k n)) : G (zqvu k) := by
 unfold zqvu
 rw [Q0]
 unfold zqvt
 exact Qnw fun _ => hk _
theorem Qjq {d : Int} {k : Int → Option β} (hk : ∀ n, G (k n)) : G (zql3 d k) := by
 unfold zql3
 rw [Q0]
 unfold zql2
 exact hk _
theorem Qci {z : zqi} (hz : z.2.2 = []) {k : Int → (List (Int × Int)) → Option β} (hk : ∀ e, G (k e [])) : G (zq1gw z k) := by
 obtain ⟨a, b, r⟩ := z
 cases hz
 unfold zq1gw
 rw [Q0]
 unfold zq1gv
 refine Qe8 (fun _ _ => ?_) (hk _)
 refine w_nc (fun _ => hk _) (fun _ => ?_)
 simp only [zq1go, zq1fl, zq1fk, zq1fi, zq1gt, Q0]
 exact hk 0
end
end
end Go.Lift
namespace Go.Lift
open Go.RowKit Go.IntWalk
noncomputable section
set_option linter.unusedVariables false
set_option linter.unusedSimpArgs false
set_option maxRecDepth 10000
section
variable {β : Type} {G : Option β → Prop}
theorem Qfb {z : zqi} (hz : z.2.2 = []) {k : Int → Option β} (hk : ∀ e, G (k e)) : G (zq1jp z k) := by
 unfold zq1jp
 rw [Q0]
 unfold zq1jo
 exact Qci hz hk
theorem Qjr (z : zqi) (t : Int) (k : Int → Option β) : zqm0 z [] t k = k z.2.1 := by
 unfold zqm0
 rw [Q0]
 unfold zqlz zqlx
 rw [Q0]
 rfl
def Qm9 (x : (Int × Int)) : Prop := -1000000 ≤ x.1 ∧ x.1 ≤ 1000000
theorem Qd6 {z : zqi} (hz : z.2.2 = []) (ho : -100000 ≤ z.2.1 ∧ z.2.1 ≤ 100000) {t : Int} {k : (Int × Int) → Int → Option β} (hk : ∀ x e, Qm9 x → G (k x e)) : G (zq1kn z t k) := by
 unfold zq1kn
 rw [Q0]
 unfold zq1km
 unfold zq1jt
 rw [Q0]
 unfold zq1js
 refine Qci hz fun e => ?_
 refine w_nd (fun h => ?_) (fun h => ?_)
 ·exact hk (0, 0) 8 ⟨by decide, by decide⟩
 refine Qe8 (fun h0 h1 => ?_) (by exact hk (0, 0) 1 ⟨by decide, by decide⟩)
 refine w_nc (fun h => Bool.noConfusion h) (fun _ => w_e (Qjr _ _ _) ?_)
 refine w_nd (fun h => absurd rfl h) (fun _ => ?_)
 unfold zqkz
 rw [Q0]
 unfold zqky
 refine w_z (by decide) (w_z (by decide) (hk _ _ ?_))
 have e1 : IntKind.i64.wrap (t + z.2.1) = t + z.2.1 := i64_in _ (by omega)
 have e2 : IntKind.i64.wrap (t + z.2.1 + 864000) = t + z.2.1 + 864000 := i64_in _ (by omega)
 show -1000000 ≤ IntKind.i64.wrap (IntKind.i64.wrap (Int.tdiv (IntKind.i64.wrap (IntKind.i64.wrap (t + z.2.1) + 864000)) 86400) - 10) ∧ _ ≤ _
 rw [e1, e2, Int.tdiv_eq_ediv_of_nonneg (by omega)]
 have e3 : IntKind.i64.wrap ((t + z.2.1 + 864000) / 86400) = (t + z.2.1 + 864000) / 86400 := i64_in _ (by omega)
 rw [e3]
 have e4 : IntKind.i64.wrap ((t + z.2.1 + 864000) / 86400 - 10) = (t + z.2.1 + 864000) / 86400 - 10 := i64_in _ (by omega)
 rw [e4]
 omega
theorem Qla {z : zqi} {x : (Int × Int)} {k1 : zq1h0 β} {k2 : zq1h1 β} (h1 : ∀ n e, G (k1 n e)) (h2 : G (k2 ())) (m : Nat) : G (zq1hj (m + 2) k1 k2 (-1) z x []) := by
 rw [zq1hk]
 unfold zq1hi
 unfold zq1hg
 rw [Q0]
 unfold zq1hf
 unfold zq1hd
 rw [Q0]
 unfold zq1hc
 refine w_e (Q8 (by decide)) (w_e (Qa (by decide)) (w_e (Qa (by decide)) (w_c (fun _ => h1 _ _) (fun _ => ?_))))
 show G (zq1hj (m + 1) k1 k2 0 z x [])
 rw [zq1hk]
 exact h2
theorem Qh7 {z : zqi} (hz : z.2.2 = []) {x : (Int × Int)} {k : Int → Int → Option β} (hk : ∀ n e, G (k n e)) : G (zq1ho z x k) := by
 unfold zq1ho
 rw [Q0]
 unfold zq1hn
 refine Qci hz fun e => ?_
 refine w_nd (fun _ => hk _ _) (fun _ => ?_)
 refine Qe8 (fun _ _ => ?_) (by exact hk _ _)
 refine w_nc (fun _ => hk _ _) (fun _ => ?_)
 refine w_c (fun _ => hk _ _) (fun _ => ?_)
 unfold zqmg
 rw [Q0]
 unfold zqmf
 refine Qe8 (fun _ _ => ?_) (by exact hk _ _)
 refine w_nc (fun _ => hk _ _) (fun _ => ?_)
 obtain ⟨m, e⟩ : ∃ m, fuel = m + 2 := ⟨fuel - 2, by have := Q3 (n := 2) (by omega); omega⟩
 unfold zq1hl
 rw [Q0]
 rw [e]
 exact Qla hk (hk _ _) m
theorem Qlb {z : zqi} (hz : z.2.2 = []) (ho : -100000 ≤ z.2.1 ∧ z.2.1 ≤ 100000) {t : Int} {k : Int → Int → Option β} (hk : ∀ n e, G (k n e)) : G (zq1ls z t k) := by
 unfold zq1ls
 rw [Q0]
 unfold zq1lr
 unfold zqvq
 rw [Q0]
 unfold zqvp
 refine Qd6 hz ho fun x e _ => w_c (fun _ => hk _ _) (fun _ => Qjq fun _ => hk _ _)
theorem Qd7 {l : (List (Int × Int))} (hl : l.length ≤ 100) {k1 : zqhw β} {k2 : zqhx β} (h1 : ∀ n, G (k1 n)) (h2 : G (k2 ())) :
  ∀ (m : Nat) (i : Int), 0 ≤ i → ((l.length : Int) - i).toNat < m → G (zqi1 m k1 k2 l i)
 | 0, _, _, h => absurd h (Nat.not_lt_zero _)
 | m + 1, i, h0, hm => by
  rw [zqi2]
  unfold zqi0
  refine w_d (fun h => ?_) (fun _ => h2)
  have e := i64_in (i + 1) (by omega)
  have e2 := i64_in (i - 1) (by omega)
  have go := Qd7 hl h1 h2 m (IntKind.i64.wrap (i + 1)) (by omega) (by omega)
  repeat' first | exact h1 _ | exact go | refine w_i (by omega) ?_ | refine w_d (fun _ => ?_) (fun _ => ?_)
theorem Qaq {l : (List (Int × Int))} {k : Int → Option β} (hk : ∀ n, (n = 0 → l.length ≤ 14) → G (k n)) : G (zqi6 l k) := by
 unfold zqi6
 rw [Q0]
 unfold zqi5
 unfold zqi3
 rw [Q0]
 refine w_d (fun _ => hk _ (fun h => absurd h (by decide))) (fun h => ?_)
 have h : l.length ≤ 14 := by omega
 exact Qd7 (by omega) (fun _ => hk _ fun _ => h) (hk _ fun _ => h) _ _ (by omega) (Q3 (by omega))
theorem Qd8 {l : (List (Int × Int))} (hl : l.length ≤ 100) {n : Int} {k1 : zqi9 β} {k2 : zqia β} (h1 : ∀ n, G (k1 n)) (h2 : G (k2 ())) :
  ∀ (m : Nat) (i : Int), 0 ≤ i → ((l.length : Int) - i).toNat < m → G (zqie m k1 k2 l n i)
 | 0, _, _, h => absurd h (Nat.not_lt_zero _)
 | m + 1, i, h0, hm => by
  rw [zqif]
  unfold zqid
  refine w_d (fun h => ?_) (fun _ => h2)
  have e := i64_in (i + 1) (by omega)
  have go := Qd8 hl h1 h2 (n := n) m (IntKind.i64.wrap (i + 1)) (by omega) (by omega)
  repeat' first | exact h1 _ | exact go | refine w_i (by omega) ?_ | refine w_d (fun _ => ?_) (fun _ => ?_)
theorem Qma {z : zqi} (hz : z.2.2 = []) (ho : -100000 ≤ z.2.1 ∧ z.2.1 ≤ 100000) {l : (List (Int × Int))} {t : Int} {k : Bool → Option β} (hk : ∀ b, G (k b)) : G (zq1mk z l t k) := by
 unfold zq1mk
 rw [Q0]
 unfold zq1mj
 refine Qlb hz ho fun n e => w_d (fun _ => ?_) (fun _ => hk _)
 refine Qaq fun c hc => w_d (fun h => ?_) (fun _ => hk _)
 have := hc h
 unfold zqij
 rw [Q0]
 unfold zqii
 unfold zqig
 rw [Q0]
 exact Qd8 (by omega) hk (hk _) _ _ (by omega) (Q3 (by omega))
theorem Qn1 {a b : Int} {k : Bool → Option β} (hk : ∀ b, G (k b)) : G (zqht a b k) := by
 unfold zqht
 rw [Q0]
 unfold zqhs
 repeat' first | exact hk _ | refine w_c (fun _ => ?_) (fun _ => ?_)
theorem Qn2 {n : Int} {k : Bool → Option β} (hk : ∀ b, G (k b)) : G (zqm4 n k) := by
 unfold zqm4
 rw [Q0]
 unfold zqm3
 exact w_c (fun _ => hk _) (fun _ => hk _)
theorem Qfc {s : (List UInt8)} (hl : s.length ≤ 100) {k1 : zqxt β} {k2 : zqxu β} (h1 : ∀ n, G (k1 n)) (h2 : G (k2 ())) :
  ∀ (m : Nat) (i : Int), 0 ≤ i → ((s.length : Int) - i).toNat < m → G (zqxy m k1 k2 s i)
 | 0, _, _, h => absurd h (Nat.not_lt_zero _)
 | m + 1, i, h0, hm => by
  rw [zqxz]
  unfold zqxx
  refine w_d (fun h => ?_) (fun _ => h2)
  have e := i64_in (i + 1) (by omega)
  have go := Qfc hl h1 h2 m (IntKind.i64.wrap (i + 1)) (by omega) (by omega)
  have hi : 0 ≤ i ∧ i < (s.length : Int) := ⟨h0, h⟩
  repeat' first | exact h1 _ | exact go | refine w_i hi ?_ | refine Qn2 fun _ => ?_ | refine w_c (fun _ => ?_) (fun _ => ?_)
theorem Qn3 {s : (List UInt8)} {k : Bool → Option β} (hk : ∀ b, G (k b)) : G (zqy3 s k) := by
 unfold zqy3
 rw [Q0]
 unfold zqy2
 unfold zqy0
 rw [Q0]
 refine w_d (fun _ => hk _) (fun _ => w_d (fun _ => hk _) (fun _ => ?_))
 have := Qfc (s := s) (by omega) hk (k2 := fun _ => k true) (hk _) fuel 0 (by omega) (Q3 (by omega))
 repeat' first | exact hk _ | exact this | refine w_i (by omega) ?_ | refine w_c (fun _ => ?_) (fun _ => ?_)
theorem Qfd {l : (List (List UInt8))} {i : Int} (hi : 0 ≤ i ∧ i < l.length) (hl : l.length ≤ 100) {k1 : zq16t β} {k2 : zq16u β} (h1 : ∀ n, G (k1 n)) (h2 : G (k2 ())) :
  ∀ (m : Nat) (j : Int), 0 ≤ j → (i - j).toNat < m → G (zq16y m k1 k2 l i j)
 | 0, _, _, h => absurd h (Nat.not_lt_zero _)
 | m + 1, j, h0, hm => by
  rw [zq16z]
  unfold zq16x
  refine w_d (fun h => ?_) (fun _ => h2)
  have e := i64_in (j + 1) (by omega)
  have go := Qfd hi hl h1 h2 m (IntKind.i64.wrap (j + 1)) (by omega) (by omega)
  repeat' first | exact h1 _ | exact go | refine w_i (by omega) ?_ | refine w_c (fun _ => ?_) (fun _ => ?_)
theorem Qn4 {l : (List (List UInt8))} {i : Int} (hi : 0 ≤ i ∧ i < l.length) (hl : l.length ≤ 100) {k : Int → Option β} (hk : ∀ b, G (k b)) : G (zq173 l i k) := by
 unfold zq173
 rw [Q0]
 unfold zq172
 unfold zq170
 rw [Q0]
 refine w_i hi (Qn3 fun _ => w_c (fun _ => hk _) (fun _ => ?_))
 exact Qfd hi hl hk (hk _) _ _ (by omega) (Q3 (by omega))
theorem Qjs {z : zqi} (hz : z.2.2 = []) {k : Bool → Option β} (hk : ∀ b, G (k b)) : G (zqkn z k) := by
 obtain ⟨a, b, r⟩ := z
 cases hz
 unfold zqkn
 rw [Q0]
 unfold zqkm
 refine w_z (by decide) ?_
 unfold zqkk
 rw [Q0]
 exact hk _
theorem Qh8 {n : Int} {k : Bool → Option β} (hk : ∀ b, G (k b)) : G (zqkv n k) := by
 unfold zqkv
 rw [Q0]
 unfold zqku
 exact Q4a fun _ => w_c (fun _ => hk _) (fun _ => hk _)
end
end
end Go.Lift
namespace Go.Lift
open Go.RowKit Go.IntWalk
noncomputable section
set_option linter.unusedVariables false
set_option linter.unusedSimpArgs false
set_option maxRecDepth 10000
structure LayOk (c : zqm) (l : zqa) : Prop where
 zone : 0 ≤ l.2.1 ∧ l.2.1 < c.1.length
 mode : l.2.2.2.2.2.2.2.2 = 0
structure CfgOk (c : zqm) : Prop where
 zn : ∀ z ∈ c.1, z.2.2 = [] ∧ -100000 ≤ z.2.1 ∧ z.2.1 ≤ 100000
 pp : ∀ p ∈ c.2.1, 0 ≤ p.2.1 ∧ p.2.1 < c.1.length
 cal : c.2.2.1 = []
 few : ∀ s ∈ c.2.2.2, s.2.1.length ≤ 1000 ∧ s.2.2.length ≤ 1000
 lay : ∀ s ∈ c.2.2.2, ∀ l ∈ s.2.1, LayOk c l
theorem Q2b {α : Type} {l : List α} {i : Int} {d : α} (h : 0 ≤ i ∧ i < l.length) : l.getD i.toNat d ∈ l := Q14 (by omega)
theorem Q80 {α : Type} {l : List α} {x : α} {i : Int} (h : (l.length : Int) = i) : ((l ++ [x]).length : Int) = i + 1 := by rw [List.length_append, List.length_singleton]; omega
section
variable {β : Type} {G : Option β → Prop} {c : zqm}
theorem Q9t {l : (List (List UInt8))} {x : (List UInt8)} {i : Int} (h : (l.length : Int) = i) (hl : l.length ≤ 99) {k : Int → Option β} (hk : ∀ b, G (k b)) : G (zq173 (l ++ [x]) i k) :=
 Qn4 (by simp only [List.length_append, List.length_singleton]; omega) (by simp only [List.length_append, List.length_singleton]; omega) hk
theorem Qfe (hc : CfgOk c) (hl : c.1.length ≤ 16) {k1 : zq1k9 β} {k2 : zq1ka β} (h1 : ∀ n, G (k1 n)) (h2 : G (k2 ())) :
  ∀ (m : Nat) (i : Int) (l : (List (List UInt8))), (l.length : Int) = i → ((c.1.length : Int) - i).toNat < m → G (zq1ke m k1 k2 i c l)
 | 0, _, _, _, h => absurd h (Nat.not_lt_zero _)
 | m + 1, i, l, h0, hm => by
  rw [zq1kf]
  unfold zq1kd
  refine w_d (fun h => ?_) (fun _ => h2)
  have e := i64_in (i + 1) (by omega)
  have hi : 0 ≤ i ∧ i < (c.1.length : Int) := by omega
  have hz := (hc.zn _ (Q2b (d := zq15) hi)).1
  refine w_i hi (w_r (by simp only [List.length_singleton]; omega) ?_)
  refine Q9t h0 (by omega) fun _ => w_c (fun _ => h1 _) (fun _ => w_i hi ?_)
  refine Qfb hz fun _ => w_c (fun _ => h1 _) (fun _ => w_i hi ?_)
  refine Qjs hz fun _ => w_c (fun _ => h1 _) (fun _ => ?_)
  exact Qfe hc hl h1 h2 m _ _ (by rw [e]; exact Q80 h0) (by omega)
theorem Qd9 (hl : c.2.1.length ≤ 32) {k1 : zq1a9 β} {k2 : zq1aa β} (h1 : ∀ n, G (k1 n)) (h2 : G (k2 ())) :
  ∀ (m : Nat) (i : Int) (l : (List (List UInt8))), (l.length : Int) = i → ((c.2.1.length : Int) - i).toNat < m → G (zq1ae m k1 k2 i c l)
 | 0, _, _, _, h => absurd h (Nat.not_lt_zero _)
 | m + 1, i, l, h0, hm => by
  rw [zq1af]
  unfold zq1ad
  refine w_d (fun h => ?_) (fun _ => h2)
  have e := i64_in (i + 1) (by omega)
  have hi : 0 ≤ i ∧ i < (c.2.1.length : Int) := by omega
  refine w_i hi (w_r (by simp only [List.length_singleton]; omega) ?_)
  refine w_c (fun _ => h1 _) (fun _ => Q9t h0 (by omega) fun _ => w_c (fun _ => h1 _) (fun _ => Q4a fun _ => w_c (fun _ => h1 _) (fun _ => ?_)))
  refine Qaq fun _ _ => w_c (fun _ => h1 _) (fun _ => Qh8 fun _ => w_c (fun _ => h1 _) (fun _ => Qh8 fun _ => w_c (fun _ => h1 _) (fun _ => ?_)))
  exact Qd9 hl h1 h2 m _ _ (by rw [e]; exact Q80 h0) (by omega)
theorem Qff {l : zqa} (hl : l.2.2.2.2.2.1.length ≤ 12) {k1 : zqvy β} {k2 : zqvz β} (h1 : ∀ n, G (k1 n)) (h2 : G (k2 c l)) :
  ∀ (m : Nat) (i : Int), 0 ≤ i → ((l.2.2.2.2.2.1.length : Int) - i).toNat < m → G (zqwe m k1 k2 i c l)
 | 0, _, _, h => absurd h (Nat.not_lt_zero _)
 | m + 1, i, h0, hm => by
  rw [zqwf]
  unfold zqwd
  refine w_d (fun h => ?_) (fun _ => h2)
  have e := i64_in (i + 1) (by omega)
  refine w_i (by omega) (Q4a fun _ => w_c (fun _ => h1 _) (fun _ => ?_))
  exact Qff hl h1 h2 m _ (by omega) (by omega)
theorem Qfg {t : Bool} {l : zqa} {k1 : zqw2 β} {k2 : zqw3 β} (h1 : ∀ n, G (k1 n)) (h2 : G (k2 ())) : G (zqwj k1 k2 t l) := by
 unfold zqwj
 rw [Q0]
 unfold zqwi
 repeat' first | exact h1 _ | exact h2 | refine w_c (fun _ => ?_) (fun _ => ?_)
theorem Qlc {l : zqa} (hl : l.2.2.2.2.2.1.length ≤ 12) {k1 : zqw6 β} (h1 : ∀ n, G (k1 n)) : G (zqwm k1 c l) := by
 unfold zqwm
 rw [Q0]
 unfold zqwl
 unfold zqwg
 rw [Q0]
 refine Qff hl h1 ?_ _ _ (by omega) (Q3 (by omega))
 refine Qaq fun _ _ => w_c (fun _ => h1 _) (fun _ => Q4a fun _ => w_c (fun _ => h1 _) (fun _ => w_c (fun _ => Q4a fun _ => ?_) (fun _ => ?_)))
 ·exact Qfg h1 (h1 _)
 ·exact Qfg h1 (h1 _)
theorem Qld {t : Bool} {l : zqa} {k1 : zqw9 β} {k2 : zqwa β} (h1 : ∀ n, G (k1 n)) (h2 : l.2.2.2.2.2.1.length ≤ 12 → G (k2 c l)) : G (zqwp k1 k2 t c l) := by
 unfold zqwp
 rw [Q0]
 unfold zqwo
 refine w_c (fun _ => h1 _) (fun _ => w_c (fun _ => h1 _) (fun _ => w_d (fun _ => h1 _) (fun _ => h2 (by omega))))
theorem Qn5 {l : zqa} {k : Int → Option β} (hk : ∀ n, G (k n)) : G (zqws c l k) := by
 unfold zqws
 rw [Q0]
 unfold zqwr
 have go : ∀ b, G (zqwp (fun t4 => k t4) (fun c2 l2 => zqwm (fun t4 => k t4) c2 l2) b c l) := fun b => Qld hk fun h => Qlc h hk
 refine Q4a fun _ => w_c (fun _ => hk _) (fun _ => Qfa fun _ => Q4a fun _ => w_c (fun _ => go _) (fun _ => Q4a fun _ => w_c (fun _ => go _) (fun _ => Q4a fun _ => w_c (fun _ => go _) (fun _ => Q4a fun _ => go _))))
theorem Qn6 {t : Bool} {x : (Int × (Int × (Int × (Int × Int))))} {k1 : zqww β} {k2 : zqwx β} (h1 : ∀ n, G (k1 n)) (h2 : G (k2 ())) : G (zqxd k1 k2 t x) := by
 unfold zqxd
 rw [Q0]
 unfold zqxc
 repeat' first | exact h1 _ | exact h2 | refine w_c (fun _ => ?_) (fun _ => ?_)
theorem Qn7 {t : Bool} {x : (Int × (Int × (Int × (Int × Int))))} {k1 : zqx0 β} {k2 : zqx1 β} (h1 : ∀ n, G (k1 n)) (h2 : G (k2 ())) : G (zqxg k1 k2 t x) := by
 unfold zqxg
 rw [Q0]
 unfold zqxf
 repeat' first | exact h1 _ | exact Qn6 h1 h2 | refine w_z (by decide) ?_ | refine Qfa fun _ => ?_ | refine w_c (fun _ => ?_) (fun _ => ?_)
theorem Qn8 {t : Bool} {x : (Int × (Int × (Int × (Int × Int))))} {k1 : zqx4 β} {k2 : zqx5 β} (h1 : ∀ n, G (k1 n)) (h2 : G (k2 ())) : G (zqxj k1 k2 t x) := by
 unfold zqxj
 rw [Q0]
 unfold zqxi
 repeat' first | exact h1 _ | exact Qn7 h1 h2 | refine w_c (fun _ => ?_) (fun _ => ?_)
theorem Qn9 {t : Bool} {x : (Int × (Int × (Int × (Int × Int))))} {k1 : zqx8 β} {k2 : zqx9 β} (h1 : ∀ n, G (k1 n)) (h2 : G (k2 ())) : G (zqxm k1 k2 t x) := by
 unfold zqxm
 rw [Q0]
 unfold zqxl
 repeat' first | exact h1 _ | exact Qn8 h1 h2 | refine w_c (fun _ => ?_) (fun _ => ?_)
theorem Qnx {x : (Int × (Int × (Int × (Int × Int))))} {k : Int → Option β} (hk : ∀ n, G (k n)) : G (zqxp c x k) := by
 unfold zqxp
 rw [Q0]
 unfold zqxo
 have go : ∀ b, G (zqxm (fun t4 => k t4) (fun _ => k 0) b x) := fun b => Qn9 hk (hk _)
 repeat' first | exact hk _ | exact go _ | refine Q4a fun _ => ?_ | refine w_c (fun _ => ?_) (fun _ => ?_)
theorem Qfh {s : zqe} (hl : s.2.1.length ≤ 6) {i : Int} {l : (List (List UInt8))} {k1 : zq1bn β} {k2 : zq1bo β} (h1 : ∀ n, G (k1 n)) (h2 : G (k2 i c l s)) :
  ∀ (m : Nat) (j : Int) (x : (List (List UInt8))), (x.length : Int) = j → ((s.2.1.length : Int) - j).toNat < m → G (zq1bw m k1 k2 i j c l s x)
 | 0, _, _, _, h => absurd h (Nat.not_lt_zero _)
 | m + 1, j, x, h0, hm => by
  rw [zq1bx]
  unfold zq1bv
  refine w_d (fun h => ?_) (fun _ => h2)
  have e := i64_in (j + 1) (by omega)
  have hi : 0 ≤ j ∧ j < (s.2.1.length : Int) := by omega
  refine w_i hi (w_r (by simp only [List.length_singleton]; omega) ?_)
  refine Q9t h0 (by omega) fun _ => w_c (fun _ => h1 _) (fun _ => w_i hi ?_)
  refine Qn5 fun _ => w_c (fun _ => h1 _) (fun _ => ?_)
  exact Qfh hl h1 h2 m _ _ (by rw [e]; exact Q80 h0) (by omega)
theorem Qfi {s : zqe} (hl : s.2.2.length ≤ 48) {i : Int} {l : (List (List UInt8))} {k1 : zq1br β} {k2 : zq1bs β} (h1 : ∀ n, G (k1 n)) (h2 : G (k2 i c l)) :
  ∀ (m : Nat) (j : Int), 0 ≤ j → ((s.2.2.length : Int) - j).toNat < m → G (zq1c1 m k1 k2 i j c l s)
 | 0, _, _, h => absurd h (Nat.not_lt_zero _)
 | m + 1, j, h0, hm => by
  rw [zq1c2]
  unfold zq1c0
  refine w_d (fun h => ?_) (fun _ => h2)
  have e := i64_in (j + 1) (by omega)
  refine w_i (by omega) (Qnx fun _ => w_c (fun _ => h1 _) (fun _ => ?_))
  exact Qfi hl h1 h2 m _ (by omega) (by omega)
theorem Qfj (hl : c.2.2.2.length ≤ 12) {k1 : zq1bj β} {k2 : zq1bk β} (h1 : ∀ n, G (k1 n)) (h2 : G (k2 ())) :
  ∀ (m : Nat) (i : Int) (l : (List (List UInt8))), (l.length : Int) = i → ((c.2.2.2.length : Int) - i).toNat < m → G (zq1c6 m k1 k2 i c l)
 | 0, _, _, _, h => absurd h (Nat.not_lt_zero _)
 | m + 1, i, l, h0, hm => by
  rw [zq1c7]
  unfold zq1c5
  refine w_d (fun h => ?_) (fun _ => h2)
  have e := i64_in (i + 1) (by omega)
  have hi : 0 ≤ i ∧ i < (c.2.2.2.length : Int) := by omega
  refine w_i hi (w_r (by simp only [List.length_singleton]; omega) ?_)
  refine Q9t h0 (by omega) fun _ => w_c (fun _ => h1 _) (fun _ => w_d (fun _ => h1 _) (fun _ => w_d (fun _ => h1 _) (fun _ => ?_)))
  unfold zq1by
  rw [Q0]
  unfold zq1c3
  rw [Q0]
  refine Qfh (by omega) h1 ?_ _ _ _ rfl (Q3 (by omega))
  refine Qfi (by omega) h1 ?_ _ _ (by omega) (Q3 (by omega))
  exact Qfj hl h1 h2 m _ _ (by rw [e]; exact Q80 h0) (by omega)
theorem Qny (hc : CfgOk c) {k1 : zq1an β} {k2 : zq1ao β} (h2 : G (k2 ())) (m : Nat) : G (zq1ba (m + 1) k1 k2 0 c []) := by
 rw [zq1bb]
 unfold zq1b9
 rw [hc.cal]
 exact h2
theorem Qjt : ∃ m, fuel = m + 1 := ⟨fuel - 1, by have := Q3 (n := 2) (by omega); omega⟩
theorem Qgq (hc : CfgOk c) {k : Int → Option β} (hk : ∀ n, G (k n)) : G (zq1bf c k) := by
 obtain ⟨m, e⟩ := Qjt
 unfold zq1bf
 rw [Q0]
 unfold zq1be
 unfold zq1bc
 rw [Q0]
 rw [e]
 exact Qny hc (hk _) m
theorem Qna (hc : CfgOk c) (hl : c.1.length ≤ 16) {k : Int → Option β} (hk : ∀ n, G (k n)) : G (zq1kj c k) := by
 unfold zq1kj
 rw [Q0]
 unfold zq1ki
 unfold zq1kg
 rw [Q0]
 exact Qfe hc hl hk (hk _) _ _ _ rfl (Q3 (by omega))
theorem Qju (hl : c.2.1.length ≤ 32) {k : Int → Option β} (hk : ∀ n, G (k n)) : G (zq1aj c k) := by
 unfold zq1aj
 rw [Q0]
 unfold zq1ai
 unfold zq1ag
 rw [Q0]
 exact Qd9 hl hk (hk _) _ _ _ rfl (Q3 (by omega))
theorem Qgr (hl : c.2.2.2.length ≤ 12) {k : Int → Option β} (hk : ∀ n, G (k n)) : G (zq1cb c k) := by
 unfold zq1cb
 rw [Q0]
 unfold zq1ca
 unfold zq1c8
 rw [Q0]
 exact Qfj hl hk (hk _) _ _ _ rfl (Q3 (by omega))
theorem Qfk (hc : CfgOk c) {k : Int → Option β} (hk : ∀ n, G (k n)) : G (zq1lo c k) := by
 unfold zq1lo
 rw [Q0]
 unfold zq1ln
 refine w_d (fun _ => hk _) (fun _ => w_d (fun _ => hk _) (fun _ => w_d (fun _ => hk _) (fun _ => w_d (fun _ => hk _) (fun _ => ?_))))
 refine Qna hc (by omega) fun _ => w_c (fun _ => hk _) (fun _ => Qju (by omega) fun _ => w_c (fun _ => hk _) (fun _ => Qgq hc fun _ => w_c (fun _ => hk _) (fun _ => Qgr (by omega) hk)))
theorem Qjv {z : zqi} (hz : z.2.2 = []) {l : zqa} {k : Int → Option β} (h0 : (1 ≤ l.2.2.2.2.1 ∧ l.2.2.2.2.1 ≤ 400) → (-1 ≤ l.2.2.1.1 ∧ l.2.2.1.1 ≤ 100000) → l.2.2.2.2.2.1.length ≠ 0 → G (k 0)) (h8 : G (k 8)) : G (zq1jx z l k) := by
 unfold zq1jx
 rw [Q0]
 unfold zq1jw
 refine Qfb hz fun _ => w_c (fun _ => h8) (fun _ => ?_)
 refine w_d (fun _ => h8) (fun _ => w_d (fun _ => h8) (fun _ => w_d (fun _ => h8) (fun _ => w_d (fun _ => h8) (fun _ => w_d (fun _ => h8) (fun _ => w_d (fun _ => h8) (fun _ => w_d (fun _ => h8) (fun _ => w_d (fun _ => h8) (fun _ => w_d (fun _ => h8) (fun _ => ?_)))))))))
 exact h0 (by omega) (by omega) (by omega)
theorem Qig {z : zqi} (hz : z.2.2 = []) {l : zqa} {n : Int} {k : Int → Bool → Option β} (hk : ∀ n b, G (k n b)) : G (zq1hz z l n k) := by
 unfold zq1hz
 rw [Q0]
 unfold zq1hy
 unfold zq1hw
 rw [Q0]
 unfold zq1hv
 repeat' first | exact hk _ _ | refine Qh7 hz fun _ _ => ?_ | refine w_c (fun _ => ?_) (fun _ => ?_)
theorem Qfl {z : zqi} (hz : z.2.2 = []) {l : zqa} {t : Int} {k1 : zq1kr β} (h1 : ∀ n, G (k1 n)) :
  ∀ (m : Nat) (n : Int), (n + 1).toNat < m → n ≤ 100000000 → G (zq1l1 m k1 t n z l)
 | 0, _, h, _ => absurd h (Nat.not_lt_zero _)
 | m + 1, n, hm, hn => by
  rw [zq1l2]
  unfold zq1l0
  refine w_d (fun h => ?_) (fun _ => h1 _)
  have e := i64_in (n - 1) (by omega)
  have go := Qfl hz (l := l) (t := t) h1 m (IntKind.i64.wrap (n - 1)) (by omega) (by omega)
  exact Qig hz fun _ _ => w_c (fun _ => w_c (fun _ => h1 _) (fun _ => go)) (fun _ => go)
theorem Qfm {z : zqi} (hz : z.2.2 = []) {l : zqa} {t n : Int} {now : (Int × Int)} (hx : Qm9 now) (hn : 1 ≤ n) (hl : -1 ≤ l.2.2.1.1 ∧ l.2.2.1.1 ≤ 100000) {k1 : zq1ku β} (h1 : ∀ n, G (k1 n)) : G (zq1l6 k1 t n z l now) := by
 unfold zq1l6
 rw [Q0]
 unfold zq1l5
 unfold zq1l3
 rw [Q0]
 obtain ⟨hx1, hx2⟩ := hx
 refine w_z (by omega) ?_
 have e1 : IntKind.i64.wrap (now.1 + 2) = now.1 + 2 := i64_in _ (by omega)
 have e2 : IntKind.i64.wrap (now.1 + 2 - l.2.2.1.1) = now.1 + 2 - l.2.2.1.1 := i64_in _ (by omega)
 show G (zq1l1 fuel (fun k_2 => k1 k_2) t (IntKind.i64.wrap (Int.tdiv (if (0 : Int) > IntKind.i64.wrap (IntKind.i64.wrap (now.1 + 2) - l.2.2.1.1) then 0 else IntKind.i64.wrap (IntKind.i64.wrap (now.1 + 2) - l.2.2.1.1)) n)) z l)
 rw [e1, e2]
 generalize hv : (if (0 : Int) > now.1 + 2 - l.2.2.1.1 then 0 else now.1 + 2 - l.2.2.1.1) = v
 have hv0 : 0 ≤ v ∧ v ≤ 2000000 := by split at hv <;> omega
 have hq : Int.tdiv v n = v / n := Int.tdiv_eq_ediv_of_nonneg hv0.1
 have hq1 : 0 ≤ v / n := Int.ediv_nonneg hv0.1 (by omega)
 have hq2 : v / n ≤ v := Int.ediv_le_self n hv0.1
 rw [hq, i64_in (v / n) (by omega)]
 exact Qfl hz h1 _ _ (Q3 (by omega)) (by omega)
theorem Qfn {l : zqa} (hl : 1 ≤ l.2.2.2.2.1 ∧ l.2.2.2.2.1 ≤ 400) {t n f : Int} {b : Bool} {k1 : zq1kx β} (h1 : ∀ n, G (k1 n)) : G (zq1l9 k1 t n f b l) := by
 unfold zq1l9
 rw [Q0]
 unfold zq1l8
 refine w_c (fun _ => w_z ?_ (h1 _)) (fun _ => h1 _)
 have := i64_in (3600 * l.2.2.2.2.1) (by omega)
 omega
theorem Qnb {z : zqi} (hz : z.2.2 = []) (ho : -100000 ≤ z.2.1 ∧ z.2.1 ≤ 100000) {l : zqa} (hl : 1 ≤ l.2.2.2.2.1 ∧ l.2.2.2.2.1 ≤ 400) (hd : -1 ≤ l.2.2.1.1 ∧ l.2.2.1.1 ≤ 100000) {t : Int} {k : Int → Option β} (hk : ∀ n, G (k n)) : G (zq1lc z l t k) := by
 unfold zq1lc
 rw [Q0]
 unfold zq1lb
 have e := i64_in (l.2.2.2.2.1 * 7) (by omega)
 refine w_c (fun _ => Qh7 hz fun _ _ => w_c (fun _ => Qfn hl hk) (fun _ => Qfn hl hk)) (fun _ => ?_)
 exact Qd6 hz ho fun _ _ hx => w_c (fun _ => Qfm hz hx (by omega) hd hk) (fun _ => Qfm hz hx hl.1 hd hk)
theorem Qjw {z : zqi} (hz : z.2.2 = []) (ho : -100000 ≤ z.2.1 ∧ z.2.1 ≤ 100000) {l : zqa} {t : Int} {k : Int → Int → Option β} (hk : ∀ n e, (e = 0 → l.2.2.2.2.2.1.length ≠ 0) → G (k n e)) : G (zq1m0 z l t k) := by
 unfold zq1m0
 rw [Q0]
 unfold zq1lz
 refine Qjv hz (fun h1 h2 h3 => ?_) ?_
 ·refine w_c (fun _ => hk _ _ fun _ => h3) (fun _ => w_c (fun _ => hk _ _ fun _ => h3) (fun _ => w_c (fun _ => hk _ _ fun _ => h3) (fun _ => ?_)))
  exact Qnb hz ho h1 h2 fun _ => hk _ _ fun _ => h3
 ·exact hk 0 8 (fun h => absurd h (by decide))
theorem Qnz (hc : CfgOk c) {l : zqa} (hl : LayOk c l) {t : Int} {k : Int → Bool → Option β} (hk : ∀ n b, (b = true → 0 ≤ n ∧ l.2.2.2.2.2.1.length ≠ 0) → G (k n b)) : G (zq1n3 c l t k) := by
 unfold zq1n3
 rw [Q0]
 unfold zq1n2
 refine w_i hl.zone ?_
 obtain ⟨hz, ho⟩ := hc.zn _ (Q2b (d := zq15) hl.zone)
 refine Qjw hz ho fun n e he => w_nd (fun _ => hk _ _ (fun h => by cases h)) (fun h0 => w_d (fun _ => hk _ _ (fun h => by cases h)) (fun hn => ?_))
 have p2 : G (zq1n0 (fun t6 t7 => k t6 t7) t n c l) := by
  unfold zq1n0
  rw [Q0]
  unfold zq1mz
  exact w_e (Q8 hl.mode) (hk _ _ fun _ => ⟨by omega, he h0⟩)
 exact w_c (fun _ => Qma hz ho fun _ => w_c (fun _ => hk _ _ (fun h => by cases h)) (fun _ => p2)) (fun _ => p2)
theorem Qnc (hc : CfgOk c) {l : zqa} (hl : LayOk c l) {t : Int} {k : Int → Option β} (hk : ∀ n, G (k n)) : G (zq1nb c l t k) := by
 unfold zq1nb
 rw [Q0]
 unfold zq1na
 refine Qnz hc hl fun n b hb => w_nc (fun _ => hk _) (fun h => ?_)
 obtain ⟨h0, h1⟩ := hb h
 exact w_z (by omega) (w_i ⟨Int.tmod_nonneg _ h0, Int.tmod_lt_of_pos _ (by omega)⟩ (hk _))
theorem Qh9 {s : zqe} (hs : s.2.2.length ≤ 1000) {p t : Int} {k1 : zql6 β} {k2 : zql7 β} (h1 : ∀ n, G (k1 n)) (h2 : G (k2 ())) :
  ∀ (m : Nat) (i : Int), 0 ≤ i → ((s.2.2.length : Int) - i).toNat < m → G (zqlb m k1 k2 p t i s)
 | 0, _, _, h => absurd h (Nat.not_lt_zero _)
 | m + 1, i, h0, hm => by
  rw [zqlc]
  unfold zqla
  refine w_d (fun h => ?_) (fun _ => h2)
  have e := i64_in (i + 1) (by omega)
  have go := Qh9 hs h1 h2 (p := p) (t := t) m (IntKind.i64.wrap (i + 1)) (by omega) (by omega)
  refine w_i (by omega) ?_
  repeat' first | exact h1 _ | exact go | refine w_c (fun _ => ?_) (fun _ => ?_)
theorem Qo0 {s : zqe} (hs : s.2.2.length ≤ 1000) {p t : Int} {k : Bool → Option β} (hk : ∀ n, G (k n)) : G (zqlg s p t k) := by
 unfold zqlg
 rw [Q0]
 unfold zqlf
 unfold zqld
 rw [Q0]
 exact Qh9 hs hk (hk _) _ _ (by omega) (Q3 (by omega))
theorem ok_w (hc : CfgOk c) {n t : Int} {k : Bool → Option β} (hk : ∀ b, (b = true → 0 ≤ n ∧ n < c.2.2.2.length) → G (k b)) : G (zq1lw c n t k) := by
 unfold zq1lw
 rw [Q0]
 unfold zq1lv
 have no : G (k false) := hk _ (fun h => by cases h)
 exact w_d (fun h1 => w_d (fun h2 => w_c (fun _ => w_c (fun _ => Qfk hc fun _ => hk _ fun _ => ⟨h1, h2⟩) (fun _ => no)) (fun _ => no)) (fun _ => no)) (fun _ => no)
theorem Qjx (hc : CfgOk c) {s : zqe} (hs : s ∈ c.2.2.2) {t : Int} {k1 : zq1nf β} {k2 : zq1ng β} (h1 : ∀ n p, G (k1 n p)) (h2 : G (k2 ())) :
  ∀ (m : Nat) (i : Int), (i + 1).toNat < m → i < s.2.1.length → G (zq1nk m k1 k2 t i c s)
 | 0, _, h, _ => absurd h (Nat.not_lt_zero _)
 | m + 1, i, hm, hi => by
  rw [zq1nl]
  unfold zq1nj
  refine w_d (fun h => ?_) (fun _ => h2)
  have hf := hc.few s hs
  have e := i64_in (i - 1) (by omega)
  have go := Qjx hc hs (t := t) h1 h2 m (IntKind.i64.wrap (i - 1)) (by omega) (by omega)
  refine w_i (by omega) (Qnc hc (hc.lay s hs _ (Q2b ⟨h, hi⟩)) fun _ => ?_)
  exact w_c (fun _ => Qo0 hf.2 fun _ => w_c (fun _ => h1 _ _) (fun _ => go)) (fun _ => go)
theorem Qoo (hc : CfgOk c) {n t : Int} (hn : 0 ≤ n ∧ n < c.2.2.2.length) {k : Int → Int → Option β} (hk : ∀ a b, G (k a b)) : G (zq1np c n t k) := by
 unfold zq1np
 rw [Q0]
 unfold zq1no
 unfold zq1nm
 rw [Q0]
 refine w_i hn ?_
 have hs := Q2b (d := (([] : List UInt8), (([] : List zqa), ([] : List (Int × (Int × (Int × (Int × Int)))))))) hn
 have hf := hc.few _ hs
 have e := i64_in (((c.2.2.2.getD n.toNat (([] : List UInt8), (([] : List zqa), ([] : List (Int × (Int × (Int × (Int × Int)))))))).2.1.length : Int) - 1) (by omega)
 exact Qjx hc hs hk (hk _ _) _ _ (Q3 (by omega)) (by omega)
theorem Qha {l : List (Int × (Int × (Int × (Int × Int))))} (hl : l.length ≤ 1000) {t : Int} {k1 : zqjq β} (h1 : ∀ n, G (k1 n)) :
  ∀ (m : Nat) (i p : Int), 0 ≤ i → ((l.length : Int) - i).toNat < m → G (zqk6 m k1 l p t i)
 | 0, _, _, _, h => absurd h (Nat.not_lt_zero _)
 | m + 1, i, p, h0, hm => by
  rw [zqk7]
  unfold zqk5
  unfold zqk3
  rw [Q0]
  unfold zqk2
  unfold zqk0
  rw [Q0]
  unfold zqjz
  refine w_d (fun h => ?_) (fun _ => h1 _)
  have e := i64_in (i + 1) (by omega)
  have go := fun p => Qha hl (t := t) h1 m (IntKind.i64.wrap (i + 1)) p (by omega) (by omega)
  refine w_i (by omega) ?_
  repeat' first | exact go _ | refine w_c (fun _ => ?_) (fun _ => ?_)
theorem Qnd (hc : CfgOk c) {n t : Int} {k : Int → Option β} (hk : ∀ a, G (k a)) : G (zq1nx c n t k) := by
 unfold zq1nx
 rw [Q0]
 unfold zq1nw
 unfold zq1nt
 rw [Q0]
 unfold zq1ns
 unfold zqkb
 rw [Q0]
 unfold zqka
 unfold zqk8
 rw [Q0]
 refine ok_w hc fun b hb => w_nc (fun _ => hk _) (fun h => ?_)
 have hn := hb h
 have hf := hc.few _ (Q2b (d := zq19) hn)
 exact Qoo hc hn fun _ _ => w_i hn (Qha hf.2 hk _ _ _ (by omega) (Q3 (by omega)))
theorem Qop (hc : CfgOk c) {n t : Int} {k : Int → Option β} (hk : ∀ a, G (k a)) : G (zq1o1 c n t k) := by
 unfold zq1o1
 rw [Q0]
 unfold zq1o0
 exact Qnd hc hk
theorem Qne (hc : CfgOk c) {n a b : Int} {k : Int → Option β} (hk : ∀ e, (e = 0 → 0 ≤ n ∧ n < c.2.1.length) → G (k e)) : G (zq1mg c n a b k) := by
 unfold zq1mg
 rw [Q0]
 unfold zq1mf
 unfold zq1md
 rw [Q0]
 unfold zq1mc
 have no : ∀ e, e ≠ 0 → G (k e) := fun e h => hk e (fun g => absurd g h)
 refine Qfk hc fun _ => w_c (fun _ => no _ (by decide)) (fun _ => w_d (fun _ => no _ (by decide)) (fun h1 => ?_))
 refine w_d (fun _ => no _ (by decide)) (fun h2 => Qn1 fun _ => w_c (fun _ => no _ (by decide)) (fun _ => hk _ fun _ => by omega))
theorem Qnf (hc : CfgOk c) {n t : Int} {u : Bool} {k : Bool → Option β} (hk : ∀ b, G (k b)) : G (zq1n7 c n t u k) := by
 unfold zq1n7
 rw [Q0]
 unfold zq1n6
 refine Qne hc fun e he => w_nd (fun _ => hk _) (fun h => ?_)
 have hn := he h
 have hp := hc.pp _ (Q2b (d := zq1b) hn)
 obtain ⟨hz, ho⟩ := hc.zn _ (Q2b (d := zq15) hp)
 refine w_i hn (w_i hp (Qma hz ho fun _ => w_c (fun _ => hk _) (fun _ => w_c (fun _ => hk _) (fun _ => hk _))))
end
end
end Go.Lift
namespace Go.Lift
open Go.RowKit Go.IntWalk
noncomputable section
set_option linter.unusedVariables false
set_option linter.unusedSimpArgs false
set_option maxRecDepth 10000
structure BookOk (b : zq4) : Prop where
 few : ∀ t ∈ b.1, t.2.length ≤ 100
 tl : b.1.length ≤ 100
 len : b.2.length ≤ 100
 pol : ∀ p ∈ b.2, p.2.1.length ≤ 100 ∧ ∀ s ∈ p.2.1, s.2.2.length ≤ 100
structure PgL (B : Nat) (s : List (Int × (Int × List Int))) (d e : List Int) : Prop where
 st : s.length ≤ 200 + B
 pp : ∀ x ∈ s, x.2.2.length ≤ 20000
 de : d.length ≤ B
 se : e.length ≤ B
def PgOk (B : Nat) (p : zqy) : Prop := PgL B p.2.2.2.2.2.2.2.2.2.2.2.1 p.2.2.2.2.2.2.2.2.2.2.2.2.1 p.2.2.2.2.2.2.2.2.2.2.2.2.2
theorem Qfo {B : Nat} : PgL B [] [] [] := ⟨by simp, fun _ h => absurd h List.not_mem_nil, by simp, by simp⟩
theorem Q9u {B C : Nat} (h : B ≤ C) {s d e} (hp : PgL B s d e) : PgL C s d e := ⟨by have := hp.st; omega, hp.pp, by have := hp.de; omega, by have := hp.se; omega⟩
section
variable {β : Type} {G : Option β → Prop} {c : zqm} {b : zq4}
theorem Qfp {p : zq2} (hp : p.2.1.length ≤ 100) {k1 : zqe0 β} {k2 : zqe1 β} (h1 : ∀ n, G (k1 n)) (h2 : G (k2 ())) :
  ∀ (m : Nat) (i : Int), 0 ≤ i → ((p.2.1.length : Int) - i).toNat < m → G (zqe5 m k1 k2 i p)
 | 0, _, _, h => absurd h (Nat.not_lt_zero _)
 | m + 1, i, h0, hm => by
  rw [zqe6]
  unfold zqe4
  refine w_d (fun h => ?_) (fun _ => h2)
  have e := i64_in (i + 1) (by omega)
  refine w_i (by omega) (w_e (Qt _ _ _ _) (w_c (fun _ => h1 _) (fun _ => ?_)))
  exact Qfp hp h1 h2 m _ (by omega) (by omega)
theorem Qhb {p : zq2} {k : Int → Option β} (hk : ∀ n, (p.2.1.length = 0 → n = 0) → G (k n)) : G (zqee p k) := by
 unfold zqee
 rw [Q0]
 unfold zqed
 refine w_e (Qt _ _ _ _) (w_c (fun _ => hk _ fun _ => rfl) (fun _ => w_c (fun _ => hk _ fun _ => rfl) (fun _ => hk _ fun h => ?_)))
 rw [h, show ((0 : Nat) : Int) * IntKind.i64.wrap (p.2.2 + 1) = 0 by omega]
 rfl
theorem Qo1 {p : zq2} {n : Int} {k : Int → Int → Bool → Option β} (hk : ∀ (i r : Int) (b : Bool), (b = true → 0 ≤ i ∧ i < p.2.1.length) → G (k i r b)) : G (zqf2 p n k) := by
 unfold zqf2
 rw [Q0]
 unfold zqf1
 refine w_d (fun _ => hk _ _ _ (fun h => by cases h)) (fun h0 => Qhb fun m hm => w_d (fun _ => hk _ _ _ (fun h => by cases h)) (fun h1 => ?_))
 have : (p.2.1.length : Int) ≠ 0 := fun h => by have := hm (by omega); omega
 have h2 : (0 : Int) < p.2.1.length := by omega
 refine w_z this (w_z this ?_)
 exact hk (Int.tmod n p.2.1.length) _ true fun _ => ⟨Int.tmod_nonneg _ (by omega), Int.tmod_lt_of_pos _ h2⟩
theorem Q6b {l : List Int} (hl : l.length ≤ 100000) {x : Int} {k : List Int → Option β} (hk : ∀ l' : List Int, l'.length ≤ l.length + 1 → G (k l')) : G (zq7c l x k) := w_e (Ql6 l hl x k) (hk _ (Qd4 x l))
theorem Q95 (hb : BookOk b) {l : (List (Int × Int))} {at_ i : Int} {x : (Int × Int)} (hx : 0 ≤ x.2 ∧ x.2 < b.1.length) (N : Nat) (hN : N ≤ 20000) {k1 : zq1o8 β} (h1 : ∀ o : List Int, o.length ≤ N + 100 → G (k1 l at_ i c b o)) :
  ∀ (m : Nat) (j : Int) (o : List Int), 0 ≤ j ∧ j ≤ 100 → (o.length : Int) ≤ N + j → (100 - j).toNat < m → G (zq1ol m k1 l at_ i j c b o x)
 | 0, _, _, _, _, h => absurd h (Nat.not_lt_zero _)
 | m + 1, j, o, h0, ho, hm => by
  rw [zq1om]
  unfold zq1ok
  have hf := hb.few _ (Q2b (d := (([] : List UInt8), ([] : List Int))) hx)
  refine w_i hx (w_d (fun h => ?_) (fun h => h1 _ (by omega)))
  have e := i64_in (j + 1) (by omega)
  refine w_i hx (w_i ⟨h0.1, h⟩ (w_e (Qt _ _ _ _) (w_c (fun _ => w_i hx (w_i ⟨h0.1, h⟩ (Q6b (by omega) fun o' ho' => ?_))) (fun _ => ?_))))
  ·exact Q95 hb hx N hN h1 m _ _ (by omega) (by omega) (by omega)
  ·exact Q95 hb hx N hN h1 m _ _ (by omega) (by omega) (by omega)
theorem Q96 (hb : BookOk b) {l : (List (Int × Int))} {at_ i : Int} {x : (Int × Int)} {t : Bool} (hx : t = true → 0 ≤ x.2 ∧ x.2 < b.1.length) {o : List Int} (ho : o.length ≤ 20000) {k1 : zq1ob β} (h1 : ∀ o' : List Int, o'.length ≤ o.length + 100 → G (k1 l at_ i c b o')) : G (zq1oq k1 l at_ i t c b o x) := by
 unfold zq1oq
 rw [Q0]
 unfold zq1op
 unfold zq1on
 rw [Q0]
 exact w_c (fun h => Q95 hb (hx h) o.length ho h1 _ _ _ (by omega) (by omega) (Q3 (by omega))) (fun _ => h1 _ (by omega))
theorem Qda (hc : CfgOk c) (hb : BookOk b) {l : (List (Int × Int))} {at_ i : Int} {x : (Int × Int)} {t : Bool} {o : List Int} (ho : o.length ≤ 20000) {k1 : zq1oe β} (h1 : ∀ o' : List Int, o'.length ≤ o.length + 100 → G (k1 l at_ i c b o')) : G (zq1ot k1 l at_ i t c b o x) := by
 unfold zq1ot
 rw [Q0]
 unfold zq1os
 refine w_c (fun _ => Qop hc fun _ => w_c (fun _ => Q6b (by omega) fun o' h => h1 _ (by omega)) (fun _ => h1 _ (by omega))) (fun _ => w_c (fun _ => ?_) (fun _ => ?_))
 ·refine in_w (fun h2 h3 => Q96 hb (fun _ => ?_) ho h1) (fun _ => Q96 hb (fun h => by cases h) ho h1)
  have := hb.tl
  have e := i64_in ((b.1.length : Int) - 1) (by omega)
  omega
 ·exact Q96 hb (fun h => by cases h) ho h1
theorem Qdb (hc : CfgOk c) (hb : BookOk b) {l : (List (Int × Int))} {at_ i : Int} {x : (Int × Int)} {t : Bool} {o : List Int} (ho : o.length ≤ 20000) {k1 : zq1oh β} (h1 : ∀ o' : List Int, o'.length ≤ o.length + 100 → G (k1 l at_ i c b o')) : G (zq1ow k1 l at_ i t c b o x) := by
 unfold zq1ow
 rw [Q0]
 unfold zq1ov
 refine w_c (fun _ => Q6b (by omega) fun o' h => h1 _ (by omega)) (fun _ => w_c (fun _ => w_e (Qt _ _ _ _) ?_) (fun _ => ?_))
 ·exact Qda hc hb ho h1
 ·exact Qda hc hb ho h1
theorem Qdc (hc : CfgOk c) (hb : BookOk b) {l : (List (Int × Int))} (hl : l.length ≤ 100) {at_ : Int} {k1 : zq1o5 β} (h1 : ∀ o : List Int, o.length ≤ 20000 → G (k1 o)) :
  ∀ (m : Nat) (i : Int) (o : List Int), 0 ≤ i ∧ i ≤ 100 → (o.length : Int) ≤ 100 * i → ((l.length : Int) - i).toNat < m → G (zq1oz m k1 l at_ i c b o)
 | 0, _, _, _, _, h => absurd h (Nat.not_lt_zero _)
 | m + 1, i, o, h0, ho, hm => by
  rw [zq1p0]
  unfold zq1oy
  refine w_d (fun h => ?_) (fun _ => h1 _ (by omega))
  have e := i64_in (i + 1) (by omega)
  have go : ∀ o' : List Int, o'.length ≤ o.length + 100 → G (zq1oz m k1 l at_ (IntKind.i64.wrap (i + 1)) c b o') := fun o' h' => Qdc hc hb hl h1 m _ _ (by omega) (by omega) (by omega)
  refine w_i ⟨h0.1, h⟩ (w_c (fun _ => w_e (Qt _ _ _ _) ?_) (fun _ => ?_))
  ·exact Qdb hc hb (by omega) go
  ·exact Qdb hc hb (by omega) go
theorem Qle (hc : CfgOk c) (hb : BookOk b) {l : (List (Int × Int))} (hl : l.length ≤ 100) {at_ : Int} {k : List Int → Option β} (hk : ∀ o : List Int, o.length ≤ 20000 → G (k o)) : G (zq1p4 c b l at_ k) := by
 unfold zq1p4
 rw [Q0]
 unfold zq1p3
 unfold zq1p1
 rw [Q0]
 exact Qdc hc hb hl hk _ _ _ (by omega) (by simp) (Q3 (by omega))
theorem Qjy {a : (Int × (Int × (Int × (Int × (Int × Int)))))} {k : Bool → Option β} (hk : ∀ b, G (k b)) : G (zq84 a k) := by
 unfold zq84
 rw [Q0]
 unfold zq83
 have go : ∀ t u, G (zq81 (fun t2 => k t2) (fun _ => k false) t u a) := fun t u => by
  unfold zq81
  rw [Q0]
  unfold zq80
  repeat' first | exact hk _ | refine w_e (Qt _ _ _ _) ?_ | refine w_c (fun _ => ?_) (fun _ => ?_)
 repeat' first | exact hk _ | exact go _ _ | refine w_e (Qt _ _ _ _) ?_ | refine w_c (fun _ => ?_) (fun _ => ?_)
theorem Qmb (hb : BookOk b) {id pol start : Int} {k : zqy → Int → Option β} (hk : ∀ p e, PgOk 0 p → (e = 0 → 0 ≤ pol ∧ pol < b.2.length) → G (k p e)) : G (zqq4 b id pol start k) := by
 unfold zqq4
 rw [Q0]
 unfold zqq3
 have no : ∀ e, e ≠ 0 → G (k zq1g e) := fun e h => hk _ _ Qfo (fun g => absurd g h)
 refine w_e (Qt _ _ _ _) (w_c (fun _ => no _ (by decide)) (fun _ => w_e (Qt _ _ _ _) (w_c (fun _ => no _ (by decide)) (fun _ => ?_))))
 refine in_w (fun h2 h3 => hk _ _ Qfo fun _ => ?_) (fun _ => no _ (by decide))
 have := hb.len
 have e := i64_in ((b.2.length : Int) - 1) (by omega)
 omega
theorem Qdd {p : zqy} (hs : p.2.2.2.2.2.2.2.2.2.2.2.1.length ≤ 1000) (hp : ∀ x ∈ p.2.2.2.2.2.2.2.2.2.2.2.1, x.2.2.length ≤ 20000) {k1 : zqei β} {k2 : zqej β} (h1 : ∀ n, G (k1 n)) (h2 : G (k2 p)) :
  ∀ (m : Nat) (n a i : Int), 0 ≤ i → ((p.2.2.2.2.2.2.2.2.2.2.2.1.length : Int) - i).toNat < m → G (zqet m k1 k2 n a i p)
 | 0, _, _, _, _, h => absurd h (Nat.not_lt_zero _)
 | m + 1, n, a, i, h0, hm => by
  rw [zqeu]
  unfold zqes
  unfold zqeq
  rw [Q0]
  unfold zqep
  refine w_d (fun h => ?_) (fun _ => h2)
  have e := i64_in (i + 1) (by omega)
  have hl := hp _ (Q2b (d := ((0 : Int), ((0 : Int), ([] : List Int)))) ⟨h0, h⟩)
  have go := fun n a => Qdd hs hp h1 h2 m n a (IntKind.i64.wrap (i + 1)) (by omega) (by omega)
  refine w_i ⟨h0, h⟩ ?_
  repeat' first | exact h1 _ | exact go _ _ | refine w_e (Q9s _ (Nat.le_trans hl (by decide)) _) ?_ | refine w_c (fun _ => ?_) (fun _ => ?_)
theorem Qhc {p : zqy} (hs : p.2.2.2.2.2.2.2.2.2.2.2.2.2.length ≤ 1000) {k1 : zqrt β} {k2 : zqru β} (h1 : ∀ n, G (k1 n)) (h2 : G (k2 ())) :
  ∀ (m : Nat) (i : Int), 0 ≤ i → ((p.2.2.2.2.2.2.2.2.2.2.2.2.2.length : Int) - i).toNat < m → G (zqry m k1 k2 i p)
 | 0, _, _, h => absurd h (Nat.not_lt_zero _)
 | m + 1, i, h0, hm => by
  rw [zqrz]
  unfold zqrx
  refine w_d (fun h => ?_) (fun _ => h2)
  have e := i64_in (i + 1) (by omega)
  refine w_e (c_p3 (by decide) h0 (by omega)) (w_i ⟨h0, h⟩ ?_)
  refine w_e (Q40 _ (by simp only [List.length_drop, List.length_take]; omega) _ _) (w_c (fun _ => h1 _) (fun _ => ?_))
  exact Qhc hs h1 h2 m _ (by omega) (by omega)
theorem Q97 (hb : BookOk b) {B : Nat} (hB : B ≤ 100) {p : zqy} (hp : PgOk B p) {k : Bool → Option β} (hk : ∀ t, (t = true → 0 ≤ p.2.1 ∧ p.2.1 < b.2.length) → G (k t)) : G (zqs3 b p k) := by
 unfold zqs3
 rw [Q0]
 unfold zqs2
 unfold zqea
 rw [Q0]
 unfold zqe9
 unfold zqe7
 rw [Q0]
 unfold zqey
 rw [Q0]
 unfold zqex
 unfold zqev
 rw [Q0]
 unfold zqs0
 rw [Q0]
 have no : G (k false) := hk _ (fun h => by cases h)
 obtain ⟨h1, h2, h3, h4⟩ := hp
 refine Qmb hb fun q e _ he => w_nd (fun _ => no) (fun h => ?_)
 have hn := he h
 have hpol := (hb.pol _ (Q2b (d := (([] : List UInt8), (([] : List zq0), (0 : Int)))) hn)).1
 refine w_i hn (Qfp hpol (fun w => ?_) ?_ _ _ (by omega) (Q3 (by omega)))
 all_goals refine w_c (fun _ => no) (fun _ => w_i hn (Qhb fun _ _ => ?_))
 all_goals iterate 8 refine w_e (Qt _ _ _ _) (w_c (fun _ => no) (fun _ => ?_))
 all_goals refine Qdd (by omega) h2 (fun w => ?_) ?_ _ _ _ _ (by omega) (Q3 (by omega))
 all_goals refine w_c (fun _ => no) (fun _ => w_e (Q9s _ (by omega) _) (w_c (fun _ => no) (fun _ => w_c (fun _ => no) (fun _ => ?_))))
 all_goals exact Qhc (by omega) (fun _ => hk _ fun _ => hn) (hk _ fun _ => hn) _ _ (by omega) (Q3 (by omega))
end
end
end Go.Lift
namespace Go.Lift
open Go.RowKit Go.IntWalk
noncomputable section
set_option linter.unusedVariables false
set_option linter.unusedSimpArgs false
set_option maxRecDepth 10000
section
variable {β : Type} {G : Option β → Prop} {c : zqm} {b : zq4}
theorem Qih {p : zqy} {k : Int → Bool → Option β} (hk : ∀ n t, (t = true → p.2.2.2.2.2.1 = 0 ∨ p.2.2.2.2.2.1 = 2) → G (k n t)) : G (zq7s p k) := by
 unfold zq7s
 rw [Q0]
 unfold zq7r
 exact w_d (fun h => hk _ _ fun _ => Or.inl h) (fun _ => w_d (fun h => hk _ _ fun _ => Or.inr h) (fun _ => hk _ _ (fun h => by cases h)))
theorem Qhd {p t2 : zqy} (hs : p.2.2.2.2.2.2.2.2.2.2.2.1.length ≤ 1000) (hp : ∀ x ∈ p.2.2.2.2.2.2.2.2.2.2.2.1, x.2.2.length ≤ 20000) {k1 : zq7f β} (h1 : G (k1 p t2 p.2.2.2.2.2.2.2.2.2.2.2.1)) :
  ∀ (m i : Nat), i ≤ p.2.2.2.2.2.2.2.2.2.2.2.1.length → p.2.2.2.2.2.2.2.2.2.2.2.1.length - i < m → G (zq7j m k1 (i : Int) p t2 (p.2.2.2.2.2.2.2.2.2.2.2.1.take i))
 | 0, _, _, h => absurd h (Nat.not_lt_zero _)
 | m + 1, i, h0, hm => by
  rw [zq7k]
  unfold zq7i
  refine w_d (fun h => ?_) (fun h => ?_)
  ·have e := i64_in ((i : Int) + 1) (by omega)
   have hl := hp _ (Q2b (d := ((0 : Int), ((0 : Int), ([] : List Int)))) (i := (i : Int)) ⟨by omega, h⟩)
   refine w_i ⟨by omega, h⟩ (w_r (by omega) (w_r (by simp only [List.length_singleton, List.length_take]; omega) ?_))
   have := Qhd (t2 := t2) hs hp h1 m (i + 1) (by omega) (by omega)
   rw [Qd5 (by omega) ((0 : Int), ((0 : Int), ([] : List Int)))] at this
   show G (zq7j m k1 (IntKind.i64.wrap ((i : Int) + 1)) p t2 _)
   rw [e]
   exact this
  ·rw [show i = p.2.2.2.2.2.2.2.2.2.2.2.1.length by omega, List.take_length]
   exact h1
theorem Qfq {B : Nat} (hB : B ≤ 100) {p : zqy} (hp : PgOk B p) {k : Int → Int → Int → Int → Int → Int → Int → Int → Int → Int → Int → List (Int × (Int × List Int)) → List Int → List Int → Option β}
  (hk : G (k p.1 p.2.1 p.2.2.1 p.2.2.2.1 p.2.2.2.2.1 p.2.2.2.2.2.1 p.2.2.2.2.2.2.1 p.2.2.2.2.2.2.2.1 p.2.2.2.2.2.2.2.2.1 p.2.2.2.2.2.2.2.2.2.1 p.2.2.2.2.2.2.2.2.2.2.1 p.2.2.2.2.2.2.2.2.2.2.2.1 p.2.2.2.2.2.2.2.2.2.2.2.2.1 p.2.2.2.2.2.2.2.2.2.2.2.2.2)) : G (zq7o p k) := by
 obtain ⟨h1, h2, h3, h4⟩ := hp
 unfold zq7o
 rw [Q0]
 unfold zq7n
 unfold zq7l
 rw [Q0]
 refine Qhd (by omega) h2 ?_ _ 0 (by omega) (Q3 (by omega))
 exact w_r (by omega) (w_r (by omega) hk)
theorem Qcj (hc : CfgOk c) {p : zqy} {pol : zq2} {at_ i t6 t62 t63 t64 t65 t66 t67 t68 t69 t610 t611 out out2 out3 out4 out5 out6 out7 out8 out9 out10 out11 x x2 : Int} {l : List Int} (hl : l.length ≤ 20000) (hi : 0 ≤ i ∧ i < pol.2.1.length) {b7 b10 : List (Int × (Int × List Int))} {b8 b9 b11 b12 : List Int} {k1 : zq1p8 β}
  (h1 : ∀ o : List Int, o.length ≤ 20000 → G (k1 i p t6 t62 t63 t64 t65 t66 t67 t68 t69 t610 t611 out out2 out3 out4 out5 out6 out7 out8 out9 out10 out11 pol x x2 b7 b8 b9 b10 b11 b12 o)) :
  ∀ (m : Nat) (j : Int) (o : List Int), 0 ≤ j ∧ j ≤ 20000 → (o.length : Int) ≤ j → ((l.length : Int) - j).toNat < m → G (zq1pc m k1 at_ i j c p t6 t62 t63 t64 t65 t66 t67 t68 t69 t610 t611 out out2 out3 out4 out5 out6 out7 out8 out9 out10 out11 pol x x2 l b7 b8 b9 b10 b11 b12 o)
 | 0, _, _, _, _, h => absurd h (Nat.not_lt_zero _)
 | m + 1, j, o, h0, ho, hm => by
  rw [zq1pd]
  unfold zq1pb
  refine w_d (fun h => ?_) (fun _ => h1 _ (by omega))
  have e := i64_in (j + 1) (by omega)
  refine w_i ⟨h0.1, h⟩ (w_i hi (Qnf hc fun _ => w_c (fun _ => w_i ⟨h0.1, h⟩ (w_r (by simp only [List.length_singleton]; omega) ?_)) (fun _ => ?_)))
  ·exact Qcj hc hl hi h1 m _ _ (by omega) (by rw [e, List.length_append, List.length_singleton]; omega) (by omega)
  ·exact Qcj hc hl hi h1 m _ _ (by omega) (by omega) (by omega)
def muP (p : zqy) : Nat := 3 * (201 - p.2.2.2.2.2.2.2.2.2.2.2.1.length) + (if p.2.2.2.2.2.1 = 2 then 2 else if p.2.2.2.2.2.1 = 0 then 1 else 0)
theorem Qo2 (hc : CfgOk c) (hb : BookOk b) {B : Nat} (hB : B ≤ 100) {p : zqy} (hp : PgOk B p) {k : zqy → Int → Option β} (hk : ∀ q e, (e = 0 → PgOk B q ∧ muP q < muP p) → G (k q e)) : G (zq1ph c b p k) := by
 unfold zq1ph
 rw [Q0]
 unfold zq1pg
 have no : ∀ e, e ≠ 0 → G (k zq1g e) := fun e h => hk _ _ (fun g => absurd g h)
 refine Q97 hb hB hp fun t ht => w_nc (fun _ => no _ (by decide)) (fun ht1 => ?_)
 have hn := ht ht1
 refine Qih fun n d hd => w_nc (fun _ => no _ (by decide)) (fun hd1 => ?_)
 have hs := hd hd1
 refine w_d (fun _ => no _ (by decide)) (fun h200 => Qfq hB hp ?_)
 have hp0 := hp
 obtain ⟨h1, h2, h3, h4⟩ := hp
 have hm : muP p = 3 * (201 - p.2.2.2.2.2.2.2.2.2.2.2.1.length) + (if p.2.2.2.2.2.1 = 2 then 2 else if p.2.2.2.2.2.1 = 0 then 1 else 0) := rfl
 refine w_d (fun h => ?_) (fun h => ?_)
 ·rw [if_pos h] at hm
  refine hk _ _ fun _ => ⟨⟨h1, h2, h3, h4⟩, ?_⟩
  rw [hm]
  show 3 * (201 - p.2.2.2.2.2.2.2.2.2.2.2.1.length) + 1 < _
  omega
 ·have hs : p.2.2.2.2.2.1 = 0 := by omega
  rw [if_neg h, if_pos hs] at hm
  have hpol := hb.pol _ (Q2b (d := (([] : List UInt8), (([] : List zq0), (0 : Int)))) hn)
  refine w_i hn (Qo1 fun i r t ht => w_nc (fun _ => ?_) (fun ht1 => ?_))
  ·refine hk _ _ fun _ => ⟨⟨h1, h2, h3, h4⟩, ?_⟩
   rw [hm]
   show 3 * (201 - p.2.2.2.2.2.2.2.2.2.2.2.1.length) + 0 < _
   omega
  ·have hi := ht ht1
   refine w_i hi (Qle hc hb (hpol.2 _ (Q2b (d := ((0 : Int), (false, ([] : List (Int × Int))))) hi)) fun l hl => ?_)
   unfold zq1pe
   rw [Q0]
   refine Qcj hc hl hi (fun o ho => ?_) _ _ _ (by omega) (by simp) (Q3 (by omega))
   have hlen : (p.2.2.2.2.2.2.2.2.2.2.2.1 ++ [(p.2.2.2.1, (n, o))]).length = p.2.2.2.2.2.2.2.2.2.2.2.1.length + 1 := by simp
   have fin : ∀ u v w s t, G (k (p.1, (p.2.1, (p.2.2.1, (u, (v, (p.2.2.2.2.2.1, (p.2.2.2.2.2.2.1, (w, (s, (t, (p.2.2.2.2.2.2.2.2.2.2.1, (p.2.2.2.2.2.2.2.2.2.2.2.1 ++ [(p.2.2.2.1, (n, o))], ([], p.2.2.2.2.2.2.2.2.2.2.2.2.2))))))))))))) 0) := fun u v w s t => by
    refine hk _ _ fun _ => ⟨⟨by rw [hlen]; omega, fun x hx => ?_, by simp, h4⟩, ?_⟩
    ·rcases List.mem_append.1 hx with hx | hx
     ·exact h2 x hx
     ·rw [List.mem_singleton.1 hx]; exact ho
    ·rw [hm]
     show 3 * (201 - (p.2.2.2.2.2.2.2.2.2.2.2.1 ++ [(p.2.2.2.1, (n, o))]).length) + (if p.2.2.2.2.2.1 = 2 then 2 else if p.2.2.2.2.2.1 = 0 then 1 else 0) < _
     rw [if_neg h, if_pos hs, hlen]
     omega
   refine w_r (by simp only [List.length_singleton]; omega) (w_c (fun _ => w_i hi ?_) (fun _ => ?_))
   ·exact fin _ _ _ _ _
   ·exact fin _ _ _ _ _
theorem Qjz (hc : CfgOk c) (hb : BookOk b) {B : Nat} (hB : B ≤ 100) {now : Int} {t8 : zqy} {k1 : zq1pl β} (h1 : ∀ e q, (e = 0 → PgOk B q) → G (k1 e q)) :
  ∀ (m : Nat) (p : zqy), PgOk B p → muP p < m → G (zq1pp m k1 now c b p t8)
 | 0, _, _, h => absurd h (Nat.not_lt_zero _)
 | m + 1, p, hp, hm => by
  rw [zq1pq]
  unfold zq1po
  refine Qih fun n d _ => w_c (fun _ => h1 _ _ fun _ => hp) (fun _ => w_c (fun _ => h1 _ _ fun _ => hp) (fun _ => ?_))
  refine Qo2 hc hb hB hp fun q e hq => w_nd (fun h => h1 _ _ fun g => absurd g h) (fun h => ?_)
  have hq := hq h
  exact Qjz hc hb hB h1 m q hq.1 (by omega)
theorem Qoq (hc : CfgOk c) (hb : BookOk b) {B : Nat} (hB : B ≤ 100) {p : zqy} (hp : PgOk B p) {now : Int} {k : zqy → Int → Option β} (hk : ∀ q e, (e = 0 → PgOk B q) → G (k q e)) : G (zq1pu c b p now k) := by
 unfold zq1pu
 rw [Q0]
 unfold zq1pt
 unfold zq1pr
 rw [Q0]
 refine Q97 hb hB hp fun t _ => w_c (fun _ => hk _ _ (fun h => absurd h (by decide))) (fun _ => Qfq hB hp ?_)
 refine Qjz hc hb hB (fun e q h => hk q e h) _ _ hp (Q3 ?_)
 unfold muP
 split
 ·omega
 ·split <;> omega
theorem Qk0 {p : zqy} {a : (Int × (Int × (Int × (Int × (Int × Int)))))} {k : Int → Option β} (hk : ∀ e, G (k e)) : G (zq8z p a k) := by
 unfold zq8z
 rw [Q0]
 unfold zq8y
 have p1 : ∀ {k1 : zq88 β} t, (∀ t, G (k1 t)) → G (zq8n k1 t p a) := fun t h => by
  unfold zq8n
  rw [Q0]
  unfold zq8m
  repeat' first | exact h _ | refine w_c (fun _ => ?_) (fun _ => ?_)
 have p2 : ∀ {k1 : zq8b β} {k2 : zq8c β} t, (∀ t, G (k1 t)) → G (k2 ()) → G (zq8q k1 k2 t p a) := fun t h g => by
  unfold zq8q
  rw [Q0]
  unfold zq8p
  repeat' first | exact h _ | exact g | refine p1 _ fun _ => ?_ | refine w_c (fun _ => ?_) (fun _ => ?_)
 have p3 : ∀ {k1 : zq8f β} t, (∀ t, G (k1 t p a)) → G (zq8t k1 t p a) := fun t h => by
  unfold zq8t
  rw [Q0]
  unfold zq8s
  repeat' first | exact h _ | refine w_c (fun _ => ?_) (fun _ => ?_)
 have p4 : ∀ t, G (zq8w (fun t4 => k t4) (fun _ => k 0) t p a) := fun t => by
  unfold zq8w
  rw [Q0]
  unfold zq8v
  repeat' first | exact hk _ | exact p2 _ hk (hk _) | refine p3 _ fun _ => ?_ | refine w_c (fun _ => ?_) (fun _ => ?_)
 exact Qih fun _ _ _ => w_c (fun _ => p4 _) (fun _ => w_c (fun _ => p4 _) (fun _ => p4 _))
theorem Qlf {B : Nat} (hB : B ≤ 100) {p : zqy} (hp : PgOk B p) {k : List Int → Option β} (hk : ∀ l : List Int, l.length ≤ 20000 → G (k l)) : G (zq93 p k) := by
 unfold zq93
 rw [Q0]
 unfold zq92
 obtain ⟨h1, h2, h3, h4⟩ := hp
 refine w_d (fun _ => hk _ (by simp)) (fun h => ?_)
 have e := i64_in ((p.2.2.2.2.2.2.2.2.2.2.2.1.length : Int) - 1) (by omega)
 have hi : 0 ≤ IntKind.i64.wrap ((p.2.2.2.2.2.2.2.2.2.2.2.1.length : Int) - 1) ∧ IntKind.i64.wrap ((p.2.2.2.2.2.2.2.2.2.2.2.1.length : Int) - 1) < p.2.2.2.2.2.2.2.2.2.2.2.1.length := by omega
 have hl := h2 _ (Q2b (d := ((0 : Int), ((0 : Int), ([] : List Int)))) hi)
 exact w_i hi (w_r (by omega) (hk _ hl))
theorem Qk1 {p t8 : zqy} {a : (Int × (Int × (Int × (Int × (Int × Int)))))} {o o2 o3 o4 o5 o6 o7 o8 o9 o10 o11 : Int} {cl : List Int} (hc : cl.length ≤ 20000) {b5 : List (Int × (Int × List Int))} {b6 b7 : List Int} (hb : b6.length ≤ 1000) {k1 : zq12y β}
  (h1 : ∀ t, G (k1 t p a t8 o o2 o3 o4 o5 o6 o7 o8 o9 o10 o11 b5 b6 b7)) :
  ∀ (m : Nat) (i : Int) (t : Bool), 0 ≤ i → ((cl.length : Int) - i).toNat < m → G (zq135 m k1 t i p a t8 o o2 o3 o4 o5 o6 o7 o8 o9 o10 o11 cl b5 b6 b7)
 | 0, _, _, _, h => absurd h (Nat.not_lt_zero _)
 | m + 1, i, t, h0, hm => by
  rw [zq136]
  unfold zq134
  refine w_d (fun h => ?_) (fun _ => h1 _)
  have e := i64_in (i + 1) (by omega)
  have go := fun t => Qk1 hc hb h1 m (IntKind.i64.wrap (i + 1)) t (by omega) (by omega)
  exact w_c (fun _ => w_i ⟨h0, h⟩ (w_e (Q40 _ (by omega) _ _) (go _))) (fun _ => go _)
theorem Qlg (hb : BookOk b) {B : Nat} (hB : B ≤ 100) {p : zqy} (hp : PgOk B p) {a : (Int × (Int × (Int × (Int × (Int × Int)))))} {k : zqy → Int → Option β} (hk : ∀ q e, (e = 0 → PgOk (B + 1) q) → G (k q e)) : G (zq13d c b p a k) := by
 unfold zq13d
 rw [Q0]
 unfold zq13c
 have no : ∀ e, e ≠ 0 → G (k zq1g e) := fun e h => hk _ _ (fun g => absurd g h)
 refine Q97 hb hB hp fun t _ => w_c (fun _ => no _ (by decide)) (fun _ => Qjy fun _ => w_c (fun _ => no _ (by decide)) (fun _ => w_c (fun _ => no _ (by decide)) (fun _ => Qfq hB hp ?_)))
 have hp0 := hp
 obtain ⟨h1, h2, h3, h4⟩ := hp
 have yes : ∀ {v1 v2 v3 v4 v5 v6 v7 v8 v9 v10 v11 : Int} {s d e}, PgL (B + 1) s d e → G (k (v1, (v2, (v3, (v4, (v5, (v6, (v7, (v8, (v9, (v10, (v11, (s, (d, e))))))))))))) 0) := fun h => hk _ _ fun _ => h
 have hse : (p.2.2.2.2.2.2.2.2.2.2.2.2.2 ++ [a.1]).length ≤ B + 1 := by rw [List.length_append, List.length_singleton]; omega
 have same : ∀ {d : List Int}, d.length ≤ B + 1 → PgL (B + 1) p.2.2.2.2.2.2.2.2.2.2.2.1 d (p.2.2.2.2.2.2.2.2.2.2.2.2.2 ++ [a.1]) := fun hd => ⟨by omega, h2, hd, hse⟩
 refine w_e (Q40 _ (by omega) _ _) (w_c (fun _ => yes (Q9u (by omega) hp0)) (fun _ => Qk0 fun e => w_nd (fun h => no _ h) (fun _ => w_r (by simp only [List.length_singleton]; omega) ?_)))
 refine w_c (fun _ => w_c (fun _ => yes (same (by omega))) (fun _ => yes (same (by omega)))) (fun _ => w_c (fun _ => ?_) (fun _ => w_c (fun _ => yes (same (by omega))) (fun _ => w_c (fun _ => w_r (by simp only [List.length_singleton]; omega) (yes ⟨?_, fun x hx => ?_, by simp, hse⟩)) (fun _ => w_c (fun _ => yes (same (by omega))) (fun _ => yes (same (by omega)))))))
 ·refine Qlf hB hp0 fun cl hcl => w_e (Q40 _ (by omega) _ _) ?_
  have p2 : ∀ d : List Int, d.length ≤ B + 1 → ∀ {o o2 o3 o4 o5 o6 o7 o8 o9 o10 o11 : Int}, G (zq13a (fun t8 out out2 out3 out4 out5 out6 out7 out8 out9 out10 out11 b2_ b3_ b4_ => k (out, (out2, (out3, (out4, (out5, (out6, (out7, (out8, (out9, (out10, (out11, (b2_, (b3_, b4_))))))))))))) 0) p a zq1g o o2 o3 o4 o5 o6 o7 o8 o9 o10 o11 cl p.2.2.2.2.2.2.2.2.2.2.2.1 d (p.2.2.2.2.2.2.2.2.2.2.2.2.2 ++ [a.1])) := fun d hd => by
   intros
   unfold zq13a
   rw [Q0]
   unfold zq139
   unfold zq137
   rw [Q0]
   refine Qk1 hcl (by omega) (fun t => ?_) _ _ _ (by omega) (Q3 (by omega))
   exact w_c (fun _ => w_c (fun _ => yes (same hd)) (fun _ => yes (same hd))) (fun _ => yes (same hd))
  refine w_c (fun _ => Q6b (by omega) fun l' h => ?_) (fun _ => ?_)
  ·exact p2 l' (by omega)
  ·exact p2 _ (by omega)
 ·rw [List.length_append, List.length_singleton]; omega
 ·rcases List.mem_append.1 hx with hx | hx
  ·exact h2 x hx
  ·rw [List.mem_singleton.1 hx]; exact (by decide : 1 ≤ 20000)
theorem Qc {n : Int} (hn : n ≤ 4611686018427387904) {d : Dice} (hd : Q9 d) {k : Int → Dice → Option β} (hk : ∀ x d', 0 ≤ x → (1 ≤ n → x < n) → Q9 d' → G (k x d')) : G (zq1s n d k) := by
 obtain ⟨x, d', h1, h2, h3⟩ := Ql9 n hd hn
 exact w_e (h3 k) (hk _ _ h1.1 h1.2.1 h2)
theorem Q16 {l : List Int} (hl : 0 < l.length ∧ l.length ≤ 1000) {d : Dice} (hd : Q9 d) {k : Int → Dice → Option β} (hk : ∀ x d', x ∈ l → Q9 d' → G (k x d')) : G (zq2a l d k) := by
 obtain ⟨x, d', h1, h2, h3⟩ := Qnv hl.1 (by omega) hd
 exact w_e (h3 k) (hk _ _ h1 h2)
theorem Qdv {id page at_ : Int} {d : Dice} (hd : Q9 d) {k : (Int × (Int × (Int × (Int × (Int × Int))))) → Dice → Option β} (hk : ∀ x d', Q9 d' → G (k x d')) : G (zq3t id page at_ d k) := by
 unfold zq3t
 rw [Q0]
 unfold zq3s
 refine Qc (by decide) hd fun x d1 _ _ hd1 => Qc (by decide) hd1 fun y d2 _ _ hd2 => w_c (fun _ => Q16 (by decide) hd2 fun z d3 _ hd3 => hk _ _ hd3) (fun _ => w_c (fun _ => Qc (by decide) hd2 fun z d3 _ _ hd3 => hk _ _ hd3) (fun _ => hk _ _ hd2))
theorem Qhe (hc : CfgOk c) (hb : BookOk b) {t8 : zqy} {k1 : zq1py β} (h1 : ∀ n d p, Q9 d → PgOk 10 p → G (k1 n d t8 p)) :
  ∀ (m : Nat) (B : Nat) (now i : Int) (d : Dice) (p : zqy), Q9 d → PgOk B p → 0 ≤ i → (B : Int) + i ≤ 10 → i.toNat < m → G (zq1q8 m k1 now i d c b t8 p)
 | 0, _, _, _, _, _, _, _, _, _, h => absurd h (Nat.not_lt_zero _)
 | m + 1, B, now, i, d, p, hd, hp, h0, hB, hm => by
  rw [zq1q9]
  unfold zq1q7
  refine w_d (fun h => ?_) (fun _ => h1 _ _ _ hd (Q9u (by omega) hp))
  have e := i64_in (i - 1) (by omega)
  have go : ∀ n d' q, Q9 d' → PgOk (B + 1) q → G (zq1q8 m k1 n (IntKind.i64.wrap (i - 1)) d' c b t8 q) := fun n d' q hd' hq => Qhe hc hb h1 m (B + 1) n _ d' q hd' hq (by omega) (by omega) (by omega)
  have ans : ∀ n d' q, Q9 d' → PgOk B q → G (zq1q5 (fun now3 i_2 d2 c2 b2 t82 p_2 => zq1q8 m k1 now3 (IntKind.i64.wrap (i_2 - 1)) d2 c2 b2 t82 p_2) n i d' c b t8 q) := fun n d' q hd' hq => by
   unfold zq1q5
   rw [Q0]
   unfold zq1q4
   refine Qc (by decide) hd' fun x d1 _ _ hd1 => Qdv hd1 fun a d2 hd2 => Qlg hb (by omega) hq fun r e hr => w_d (fun h => ?_) (fun _ => go _ _ _ hd2 (Q9u (by omega) hq))
   exact Qc (by decide) hd2 fun y d3 _ _ hd3 => w_c (fun _ => go _ _ _ hd3 (hr h)) (fun _ => go _ _ _ hd3 (Q9u (by omega) hq))
  refine Q16 (by decide) hd fun x d1 _ hd1 => Qoq hc hb (by omega) hp fun q e hq => w_d (fun h => ?_) (fun _ => ans _ _ _ hd1 hp)
  exact Qc (by decide) hd1 fun y d2 _ _ hd2 => w_c (fun _ => ans _ _ _ hd2 (hq h)) (fun _ => ans _ _ _ hd2 hp)
theorem Qo3 (hc : CfgOk c) (hb : BookOk b) {d : Dice} (hd : Q9 d) {k : zqy → Int → Dice → Option β} (hk : ∀ p n d, Q9 d → PgOk 10 p → G (k p n d)) : G (zq1qd c b 4 d k) := by
 unfold zq1qd
 rw [Q0]
 unfold zq1qc
 unfold zq1qa
 rw [Q0]
 have hl := hb.len
 refine Q16 (by decide) hd fun x d1 _ hd1 => Qc (by decide) hd1 fun y d2 _ _ hd2 => Qc (by split <;> omega) hd2 fun z d3 _ _ hd3 => ?_
 refine Qmb hb fun p e hp _ => w_c (fun _ => hk _ _ _ hd3 Qfo) (fun _ => Qc (by decide) hd3 fun i d4 h0 h1 hd4 => ?_)
 have h1 : i < 5 := h1 (by decide)
 exact Qhe hc hb (fun n d p hd hp => hk p n d hd hp) _ 0 _ _ _ _ hd4 hp h0 (by omega) (Q3 (by omega))
end
end
end Go.Lift
namespace Go.Lift
open Go.RowKit Go.IntWalk
noncomputable section
set_option linter.unusedVariables false
set_option linter.unusedSimpArgs false
set_option maxRecDepth 10000
theorem Q2f {α : Type} {P : α → Prop} {l : List α} {x : α} (h : ∀ y ∈ l, P y) (hx : P x) : ∀ y ∈ l ++ [x], P y := fun y hy => by
 rcases List.mem_append.1 hy with hy | hy
 ·exact h y hy
 ·rw [List.mem_singleton.1 hy]; exact hx
section
variable {β : Type} {G : Option β → Prop}
theorem Qii {d : Dice} (hd : Q9 d) {k : (Int × (Int × (Int × (Int × Int)))) → Dice → Option β} (hk : ∀ x d', Q9 d' → G (k x d')) : G (zq3e d k) := by
 unfold zq3e
 rw [Q0]
 unfold zq3d
 refine Q16 (by decide) hd fun _ _ _ hd => Qc (by decide) hd fun _ _ _ _ hd => Qc (by decide) hd fun _ _ _ _ hd => Q16 (by decide) hd fun _ _ _ hd => ?_
 exact w_c (fun _ => Qc (by decide) hd fun _ _ _ _ hd => w_z (by decide) (hk _ _ hd)) (fun _ => w_c (fun _ => Qc (by decide) hd fun _ _ _ _ hd => hk _ _ hd) (fun _ => hk _ _ hd))
theorem Qhf {ns : (List (List UInt8))} (hn : ns.length = 4) {b4 b8 b5 b6 b7 b10 b11} {k1 : zqmk β} (h1 : ∀ d b9, Q9 d → (∀ p ∈ b9, p.2.1 = 0) → G (k1 d b4 b5 b6 b7 b8 b9 b10 b11)) :
  ∀ (m : Nat) (i : Int) (d : Dice) (b9 : (List zqk)), Q9 d → 0 ≤ i → (b9.length : Int) ≤ i → (∀ p ∈ b9, p.2.1 = 0) → (4 - i).toNat < m → G (zqmx m k1 i d ns b4 b5 b6 b7 b8 b9 b10 b11)
 | 0, _, _, _, _, _, _, _, h => absurd h (Nat.not_lt_zero _)
 | m + 1, i, d, b9, hd, h0, hl, hp, hm => by
  rw [zqmy]
  unfold zqmw
  refine w_d (fun h => ?_) (fun _ => h1 _ _ hd hp)
  have e := i64_in (i + 1) (by omega)
  have go : ∀ d x, Q9 d → x.2.1 = 0 → G (zqmx m k1 (IntKind.i64.wrap (i + 1)) d ns b4 b5 b6 b7 b8 (b9 ++ [x]) b10 b11) := fun d x hd hx =>
   Qhf hn h1 m _ _ _ hd (by omega) (by rw [List.length_append, List.length_singleton]; omega) (Q2f hp hx) (by omega)
  refine w_i (by omega) (Qc (by decide) hd fun _ _ _ _ hd => Qc (by decide) hd fun _ _ _ _ hd => w_c (fun _ => Q16 (by decide) hd fun _ _ _ hd => Q16 (by decide) hd fun _ _ _ hd => ?_) (fun _ => ?_))
  ·exact w_r (by simp only [List.length_singleton]; omega) (go _ _ hd rfl)
  ·exact w_r (by simp only [List.length_singleton]; omega) (go _ _ hd rfl)
theorem Qhg {i l2 l3 l4 l5 l6 l7 l8 : Int} {l : (List UInt8)} {b4 b5 b6 b7 b8 b9 b10 b11 b13} {k1 : zqmq β} (h1 : ∀ d b12, Q9 d → G (k1 i d l l2 l3 l4 l5 l6 l7 l8 b4 b5 b6 b7 b8 b9 b10 b11 b12 b13)) :
  ∀ (m : Nat) (k : Int) (d : Dice) (b12 : List Int), Q9 d → 0 ≤ k → (b12.length : Int) + k ≤ 100 → k.toNat < m → G (zqn2 m k1 i k d l l2 l3 l4 l5 l6 l7 l8 b4 b5 b6 b7 b8 b9 b10 b11 b12 b13)
 | 0, _, _, _, _, _, _, h => absurd h (Nat.not_lt_zero _)
 | m + 1, k, d, b12, hd, h0, hl, hm => by
  rw [zqn3]
  unfold zqn1
  refine w_d (fun h => ?_) (fun _ => h1 _ _ hd)
  have e := i64_in (k - 1) (by omega)
  refine Qc (by decide) hd fun _ _ _ _ hd => w_r (by simp only [List.length_singleton]; omega) ?_
  exact Qhg h1 m _ _ _ hd (by omega) (by rw [List.length_append, List.length_singleton]; omega) (by omega)
theorem Qhh {i : Int} {s : (List UInt8)} {b4 b5 b6 b7 b8 b9 b10 b11 b12} {k1 : zqmt β} (h1 : ∀ d b13, Q9 d → b13.length ≤ 100 → G (k1 i d s b4 b5 b6 b7 b8 b9 b10 b11 b12 b13)) :
  ∀ (m : Nat) (k : Int) (d : Dice) (b13 : List (Int × (Int × (Int × (Int × Int))))), Q9 d → 0 ≤ k → (b13.length : Int) + k ≤ 100 → k.toNat < m → G (zqn7 m k1 i k d s b4 b5 b6 b7 b8 b9 b10 b11 b12 b13)
 | 0, _, _, _, _, _, _, h => absurd h (Nat.not_lt_zero _)
 | m + 1, k, d, b13, hd, h0, hl, hm => by
  rw [zqn8]
  unfold zqn6
  refine w_d (fun h => ?_) (fun _ => h1 _ _ hd (by omega))
  have e := i64_in (k - 1) (by omega)
  refine Qii hd fun _ _ hd => w_r (by simp only [List.length_singleton]; omega) ?_
  exact Qhh h1 m _ _ _ hd (by omega) (by rw [List.length_append, List.length_singleton]; omega) (by omega)
def ScOk (s : zqe) : Prop := s.2.1.length ≤ 1000 ∧ s.2.2.length ≤ 1000 ∧ ∀ l ∈ s.2.1, l.2.1 = 0 ∧ l.2.2.2.2.2.2.2.2 = 0
theorem Qhi {b3 b7 : (List zqi)} {b4 b8 : (List zqk)} {b5 b9 : (List zq6)} {b6 : (List zqe)} {k1 : zqmn β} (h1 : ∀ d b10, Q9 d → (∀ s ∈ b10, ScOk s) → G (k1 d b3 b4 b5 b6 b7 b8 b9 b10)) :
  ∀ (m : Nat) (i : Int) (d : Dice) (b10 : (List zqe)), Q9 d → 0 ≤ i → (b10.length : Int) ≤ i → (∀ s ∈ b10, ScOk s) → (2 - i).toNat < m → G (zqnc m k1 i d b3 b4 b5 b6 b7 b8 b9 b10)
 | 0, _, _, _, _, _, _, _, h => absurd h (Nat.not_lt_zero _)
 | m + 1, i, d, b10, hd, h0, hl, hs, hm => by
  rw [zqnd]
  unfold zqnb
  unfold zqn4
  rw [Q0]
  unfold zqn9
  rw [Q0]
  refine w_d (fun h => ?_) (fun _ => h1 _ _ hd hs)
  have e := i64_in (i + 1) (by omega)
  refine Q16 (by decide) hd fun _ _ _ hd => Q16 (by decide) hd fun _ _ _ hd => Q16 (by decide) hd fun _ _ _ hd => Qc (by decide) hd fun _ _ _ _ hd => Qc (by decide) hd fun n _ hn0 hn1 hd => ?_
  have hn1 := hn1 (by decide)
  have e1 := i64_in (1 + n) (by omega)
  refine Qhg (fun d b12 hd => ?_) _ _ _ _ hd (by omega) (by simp only [List.length_nil]; omega) (Q3 (by omega))
  refine w_i ⟨h0, h⟩ (Qc (by decide) hd fun k _ hk0 hk1 hd => ?_)
  have hk1 := hk1 (by decide)
  refine Qhh (fun d b13 hd h13 => ?_) _ _ _ _ hd hk0 (by simp only [List.length_nil]; omega) (Q3 (by omega))
  refine w_r (by simp only [List.length_singleton]; omega) ?_
  refine Qhi h1 m _ _ _ hd (by omega) (by rw [List.length_append, List.length_singleton]; omega) (Q2f hs ⟨by simp, Nat.le_trans h13 (by decide), fun l hl => ?_⟩) (by omega)
  rw [List.mem_singleton.1 hl]
  exact ⟨rfl, rfl⟩
theorem Qo4 {d : Dice} (hd : Q9 d) {k : zqm → Dice → Option β} (hk : ∀ c d, Q9 d → CfgOk c → G (k c d)) : G (zqnh d k) := by
 unfold zqnh
 rw [Q0]
 unfold zqng
 unfold zqmz
 rw [Q0]
 unfold zqne
 rw [Q0]
 refine Q16 (by decide) hd fun o _ ho hd => ?_
 have ho : o = 0 ∨ o = 3600 ∨ o = -7200 := by simpa using ho
 refine Qhf rfl (fun d b9 hd hp => ?_) _ _ _ _ hd (by omega) (by simp) (fun _ h => absurd h List.not_mem_nil) (Q3 (by decide))
 refine Qhi (fun d b10 hd hs => ?_) _ _ _ _ hd (by omega) (by simp) (fun _ h => absurd h List.not_mem_nil) (Q3 (by decide))
 refine hk _ _ hd ⟨fun z hz => ?_, fun p h => ?_, rfl, fun s h => ⟨(hs s h).1, (hs s h).2.1⟩, fun s h l hl => ?_⟩
 ·rw [List.mem_singleton.1 hz]
  exact ⟨rfl, by show -100000 ≤ o ∧ o ≤ 100000; omega⟩
 ·rw [hp p h]
  exact ⟨by decide, Int.zero_lt_one⟩
 ·have h2 := (hs s h).2.2 l hl
  exact ⟨by rw [h2.1]; exact ⟨by decide, Int.zero_lt_one⟩, h2.2⟩
theorem Qlh {b : (List (List UInt8 × List Int))} (hb : b.length ≤ 100) {d : Dice} (hd : Q9 d) {k : (Int × Int) → Dice → Option β} (hk : ∀ x d', Q9 d' → G (k x d')) : G (zq3p b d k) := by
 unfold zq3p
 rw [Q0]
 unfold zq3o
 have p1 : ∀ n d t4, Q9 d → 0 ≤ n ∧ n < 3 → G (zq3m (fun b0 t4 => k t4 b0) n d b t4) := fun n d t4 hd hn => by
  unfold zq3m
  rw [Q0]
  unfold zq3l
  refine w_i hn (Qc ?_ hd fun _ _ _ _ hd => hk _ _ hd)
  have : n = 0 ∨ n = 1 ∨ n = 2 := by omega
  rcases this with rfl | rfl | rfl
  ·exact (by decide : (4 : Int) ≤ 4611686018427387904)
  ·exact (by decide : (2 : Int) ≤ 4611686018427387904)
  ·show (b.length : Int) ≤ 4611686018427387904
   omega
 refine Qc (by decide) hd fun n _ h0 h1 hd => ?_
 have h1 := h1 (by decide)
 exact w_c (fun _ => w_c (fun _ => p1 _ _ _ hd (by omega)) (fun _ => p1 _ _ _ hd ⟨h0, h1⟩)) (fun _ => p1 _ _ _ hd ⟨h0, h1⟩)
theorem Qhj {b3 : (List (List UInt8 × List Int))} {b4 b6 : (List zq2)} {k1 : zqnl β} (h1 : ∀ d b5, Q9 d → b5.length ≤ 2 → (∀ t ∈ b5, t.2.length ≤ 100) → G (k1 d b3 b4 b5 b6)) :
  ∀ (m : Nat) (i : Int) (d : Dice) (b5 : (List (List UInt8 × List Int))), Q9 d → 0 ≤ i → (b5.length : Int) + i ≤ 2 → (∀ t ∈ b5, t.2.length ≤ 100) → i.toNat < m → G (zqny m k1 i d b3 b4 b5 b6)
 | 0, _, _, _, _, _, _, _, h => absurd h (Nat.not_lt_zero _)
 | m + 1, i, d, b5, hd, h0, hl, hs, hm => by
  rw [zqnz]
  unfold zqnx
  refine w_d (fun h => ?_) (fun _ => h1 _ _ hd (by omega) hs)
  have e := i64_in (i - 1) (by omega)
  have go : ∀ d x, Q9 d → x.2.length ≤ 100 → G (zqny m k1 (IntKind.i64.wrap (i - 1)) d b3 b4 (b5 ++ [x]) b6) := fun d x hd hx =>
   Qhj h1 m _ _ _ hd (by omega) (by rw [List.length_append, List.length_singleton]; omega) (Q2f hs hx) (by omega)
  refine w_i ⟨by omega, by show (b5.length : Int) < 2; omega⟩ (Qc (by decide) hd fun _ _ _ _ hd => Qc (by decide) hd fun _ _ _ _ hd => w_c (fun _ => Qc (by decide) hd fun _ _ _ _ hd => w_r (by simp only [List.length_singleton]; omega) ?_) (fun _ => ?_))
  ·exact w_r (by simp only [List.length_singleton]; omega) (go _ _ hd (by simp))
  ·exact w_r (by simp only [List.length_singleton]; omega) (go _ _ hd (by simp))
theorem Qhk {i k : Int} {b b5 : (List (List UInt8 × List Int))} (hb : b.length ≤ 100) {p : (List UInt8)} {p2 s : Int} {s2 : Bool} {b6 b7 : (List zq2)} {b8 : List zq0} {k1 : zqnu β} (h1 : ∀ d b9, Q9 d → b9.length ≤ 100 → G (k1 i k d b p p2 s s2 b5 b6 b7 b8 b9)) :
  ∀ (m : Nat) (j : Int) (d : Dice) (b9 : (List (Int × Int))), Q9 d → 0 ≤ j → (b9.length : Int) + j ≤ 100 → j.toNat < m → G (zqo3 m k1 i k j d b p p2 s s2 b5 b6 b7 b8 b9)
 | 0, _, _, _, _, _, _, h => absurd h (Nat.not_lt_zero _)
 | m + 1, j, d, b9, hd, h0, hl, hm => by
  rw [zqo4]
  unfold zqo2
  refine w_d (fun h => ?_) (fun _ => h1 _ _ hd (by omega))
  have e := i64_in (j - 1) (by omega)
  refine Qlh hb hd fun _ _ hd => w_r (by simp only [List.length_singleton]; omega) ?_
  exact Qhk hb h1 m _ _ _ hd (by omega) (by rw [List.length_append, List.length_singleton]; omega) (by omega)
def Qij (p : zq2) : Prop := p.2.1.length ≤ 100 ∧ ∀ s ∈ p.2.1, s.2.2.length ≤ 100
theorem Qhl {i : Int} {b b4 : (List (List UInt8 × List Int))} (hb : b.length ≤ 100) {p : (List UInt8)} {p2 : Int} {b5 b6 : (List zq2)} {k1 : zqnr β} (h1 : ∀ d b7, Q9 d → Qij (p, (b7, p2)) → G (k1 i d b p p2 b4 b5 b6 b7)) :
  ∀ (m : Nat) (k : Int) (d : Dice) (b7 : List zq0), Q9 d → 0 ≤ k → (b7.length : Int) + k ≤ 100 → (∀ s ∈ b7, s.2.2.length ≤ 100) → k.toNat < m → G (zqo8 m k1 i k d b p p2 b4 b5 b6 b7)
 | 0, _, _, _, _, _, _, _, h => absurd h (Nat.not_lt_zero _)
 | m + 1, k, d, b7, hd, h0, hl, hs, hm => by
  rw [zqo9]
  unfold zqo7
  unfold zqo5
  rw [Q0]
  refine w_d (fun h => ?_) (fun _ => h1 _ _ hd ⟨by show b7.length ≤ 100; omega, hs⟩)
  have e := i64_in (k - 1) (by omega)
  refine Q16 (by decide) hd fun _ _ _ hd => Qc (by decide) hd fun _ _ _ _ hd => Qc (by decide) hd fun j _ hj0 hj1 hd => ?_
  have hj1 := hj1 (by decide)
  refine Qhk hb (fun d b9 hd h9 => ?_) _ _ _ _ hd hj0 (by simp only [List.length_nil]; omega) (Q3 (by omega))
  refine w_r (by simp only [List.length_singleton]; omega) ?_
  exact Qhl hb h1 m _ _ _ hd (by omega) (by rw [List.length_append, List.length_singleton]; omega) (Q2f hs h9) (by omega)
theorem Qhm {b b3 : (List (List UInt8 × List Int))} (hb : b.length ≤ 100) {b4 : (List zq2)} {k1 : zqno β} (h1 : ∀ d b5, Q9 d → b5.length ≤ 3 → (∀ p ∈ b5, Qij p) → G (k1 d b b3 b4 b5)) :
  ∀ (m : Nat) (i : Int) (d : Dice) (b5 : (List zq2)), Q9 d → 0 ≤ i → (b5.length : Int) + i ≤ 3 → (∀ p ∈ b5, Qij p) → i.toNat < m → G (zqod m k1 i d b b3 b4 b5)
 | 0, _, _, _, _, _, _, _, h => absurd h (Nat.not_lt_zero _)
 | m + 1, i, d, b5, hd, h0, hl, hs, hm => by
  rw [zqoe]
  unfold zqoc
  unfold zqoa
  rw [Q0]
  refine w_d (fun h => ?_) (fun _ => h1 _ _ hd (by omega) hs)
  have e := i64_in (i - 1) (by omega)
  refine w_i ⟨by omega, by show (b5.length : Int) < 3; omega⟩ (Q16 (by decide) hd fun _ _ _ hd => Qc (by decide) hd fun n _ hn0 hn1 hd => ?_)
  have hn1 := hn1 (by decide)
  have e1 := i64_in (1 + n) (by omega)
  refine Qhl hb (fun d b7 hd h7 => ?_) _ _ _ _ hd (by omega) (by simp only [List.length_nil]; omega) (fun _ h => absurd h List.not_mem_nil) (Q3 (by omega))
  refine w_r (by simp only [List.length_singleton]; omega) ?_
  exact Qhm hb h1 m _ _ _ hd (by omega) (by rw [List.length_append, List.length_singleton]; omega) (Q2f hs h7) (by omega)
theorem Qo5 {d : Dice} (hd : Q9 d) {k : zq4 → Dice → Option β} (hk : ∀ b d, Q9 d → BookOk b → G (k b d)) : G (zqoi d k) := by
 unfold zqoi
 rw [Q0]
 unfold zqoh
 unfold zqo0
 rw [Q0]
 unfold zqof
 rw [Q0]
 refine Qc (by decide) hd fun i _ h0 h1 hd => ?_
 have h1 := h1 (by decide)
 refine Qhj (fun d b5 hd h5 ht => ?_) _ _ _ _ hd h0 (by simp only [List.length_nil]; omega) (fun _ h => absurd h List.not_mem_nil) (Q3 (by omega))
 refine Qc (by decide) hd fun j _ g0 g1 hd => ?_
 have g1 := g1 (by decide)
 have e1 := i64_in (1 + j) (by omega)
 refine Qhm (by omega) (fun d b6 hd h6 hp => ?_) _ _ _ _ hd (by omega) (by simp only [List.length_nil]; omega) (fun _ h => absurd h List.not_mem_nil) (Q3 (by omega))
 exact hk _ _ hd ⟨ht, by show b5.length ≤ 100; omega, by show b6.length ≤ 100; omega, hp⟩
end
end
end Go.Lift
namespace Go.Lift
open Go.RowKit Go.IntWalk
noncomputable section
set_option linter.unusedVariables false
set_option linter.unusedSimpArgs false
set_option maxRecDepth 10000
structure Sz (B : Nat) (x : Inc) : Prop where
 ti : x.ti.length ≤ B
 pg : x.pg.length ≤ B
 ts : x.ts.length ≤ B
 up : x.up.length ≤ B
 su : x.su.length ≤ B
 ch : x.ch.length ≤ B
 tt : ∀ t ∈ x.ts, t.1.length ≤ B
 ut : ∀ u ∈ x.up, u.2.2.1.length ≤ B
 ul : ∀ u ∈ x.up, u.2.2.2.length ≤ B
theorem Sz.mono {B C : Nat} {x : Inc} (h : Sz B x) (hc : B ≤ C) : Sz C x :=
 ⟨Nat.le_trans h.ti hc, Nat.le_trans h.pg hc, Nat.le_trans h.ts hc, Nat.le_trans h.up hc, Nat.le_trans h.su hc, Nat.le_trans h.ch hc, fun t ht => Nat.le_trans (h.tt t ht) hc, fun t ht => Nat.le_trans (h.ut t ht) hc, fun t ht => Nat.le_trans (h.ul t ht) hc⟩
theorem Sz.sized {B : Nat} {x : Inc} (h : Sz B x) (hc : B ≤ 1000) : SizedI x := by
 obtain ⟨a, b, c, d, e, f, g, i, j⟩ := h.mono (show B ≤ 100000 by omega)
 exact ⟨a, b, c, d, e, f, g, i, j⟩
section
variable {β : Type} {G : Option β → Prop} {x : Inc} {B : Nat}
theorem Q9v {n lo hi : Int} {k : Bool → Option β} (hk : ∀ b, G (k b)) : G (zq56 n lo hi k) := w_e (Qt _ _ _ _) (hk _)
theorem Q81 {n : Int} {b : Bool} {k : Bool → Option β} (hk : ∀ b, G (k b)) : G (zq5m n b k) := by
 unfold zq5m
 rw [Q0]
 unfold zq5l
 exact Q9v fun _ => w_c (fun _ => hk _) (fun _ => w_c (fun _ => hk _) (fun _ => hk _))
theorem Qo6 {a b : Int} {k : Bool → Option β} (hk : ∀ b, G (k b)) : G (zq6c a b k) := w_e (Ql7 _ _ _) (hk _)
theorem Q4n (hs : SizedI x) {k : Int → Option β} (hk : ∀ e, G (k e)) : G (zqrp x k) := by
 unfold zqrp
 rw [Q0]
 unfold zqro
 refine w_e (Q6m hs _) (w_nc (fun _ => hk _) (fun _ => w_c (fun _ => hk _) (fun _ => w_c (fun _ => hk _) (fun _ => hk _))))
theorem Qk2 (hs : SizedI x) {k : Int → Option β} (hk : ∀ e, G (k e)) : G (zq68 x k) := by
 have h1 := hs.up
 have h2 := hs.ch
 unfold Inc.up at h1
 unfold Inc.ch at h2
 have p : ∀ a, G (zq65 k a x) := fun a => by
  unfold zq65
  rw [Q0]
  unfold zq64
  refine w_d (fun h => w_i ?_ (hk _)) (fun _ => hk _)
  rw [i64_in ((x.2.2.2.2.2.2.2.2.2.2.1.length : Int) - 1) (by omega)]
  omega
 unfold zq68
 rw [Q0]
 unfold zq67
 refine w_d (fun h => w_i ?_ (p _)) (fun _ => p _)
 rw [i64_in ((x.2.2.2.2.2.2.2.2.1.length : Int) - 1) (by omega)]
 omega
theorem Qli (hs : Sz B x) (hB : B ≤ 900) {role who : Int} {k : Inc → Int → Option β} (hk : ∀ y e, (e = 0 → Sz (B + 3) y) → G (k y e)) : G (zq114 x role who k) := by
 have hz := hs.sized (by omega)
 have hm := hs.mono (show B ≤ B + 3 by omega)
 have bad : ∀ y e, e ≠ 0 → G (k y e) := fun y e h => hk y e (fun h' => absurd h' h)
 unfold zq114
 rw [Q0]
 unfold zq113
 refine Q4n hz fun e => w_nd (fun h => bad _ _ h) (fun _ => in_w (fun h1 h2 => ?_) (fun _ => bad _ _ (by decide)))
 refine Q81 fun _ => w_nc (fun _ => bad _ _ (by decide)) (fun _ => w_e (Q3s hz _) (w_d (fun _ => hk _ _ fun _ => { hm with }) (fun _ => w_d (fun _ => hk _ _ fun _ => { hm with }) (fun _ => w_d (fun _ => hk _ _ fun _ => { hm with }) (fun _ => by omega)))))
theorem Qo7 (hs : Sz B x) (hB : B ≤ 900) {at_ to who : Int} {k : Inc → Int → Option β} (hk : ∀ y e, (e = 0 → Sz (B + 3) y) → G (k y e)) : G (zq11n x at_ to who k) := by
 have hz := hs.sized (by omega)
 have hm := hs.mono (show B ≤ B + 3 by omega)
 have hc := hs.ch
 unfold Inc.ch at hc
 have bad : ∀ y e, e ≠ 0 → G (k y e) := fun y e h => hk y e (fun h' => absurd h' h)
 have fin : G (zq6g x at_ to who fun y => k y 0) := by
  unfold zq6g
  rw [Q0]
  unfold zq6f
  refine w_e (Q3s hz _) (w_r (by simp only [List.length_singleton]; omega) (hk _ _ fun _ => { hm with ch := ?_ }))
  show (x.2.2.2.2.2.2.2.2.2.2.1 ++ [(at_, (to, who))]).length ≤ B + 3
  rw [List.length_append, List.length_singleton]
  omega
 have p1 : ∀ t, G (zq11h (fun e y => k y e) (fun a t w x _ => zq6g x a t w fun y => k y 0) at_ to who t x zq1h) := fun t => by
  unfold zq11h
  rw [Q0]
  unfold zq11g
  exact w_c (fun _ => bad _ _ (by decide)) (fun _ => w_c (fun _ => bad _ _ (by decide)) (fun _ => fin))
 have p2 : ∀ t, G (zq11k (fun e y => k y e) (fun a t w x _ => zq6g x a t w fun y => k y 0) at_ to who t x zq1h) := fun t => by
  unfold zq11k
  rw [Q0]
  unfold zq11j
  exact w_c (fun _ => bad _ _ (by decide)) (fun _ => w_c (fun _ => p1 _) (fun _ => Qo6 fun _ => p1 _))
 unfold zq11n
 rw [Q0]
 unfold zq11m
 exact Q4n hz fun e => w_nd (fun h => bad _ _ h) (fun _ => Qk2 hz fun _ => Q9v fun _ => w_nc (fun _ => p2 _) (fun _ => Q81 fun _ => p2 _))
theorem Qor (hs : Sz B x) (hB : B ≤ 900) {at_ who : Int} {text : List UInt8} (ht : text.length ≤ B) {k : Inc → Int → Option β} (hk : ∀ y e, (e = 0 → Sz (B + 3) y) → G (k y e)) : G (zq125 x at_ who text k) := by
 have hz := hs.sized (by omega)
 have hm := hs.mono (show B ≤ B + 3 by omega)
 have hc := hs.ts
 unfold Inc.ts at hc
 have bad : ∀ y e, e ≠ 0 → G (k y e) := fun y e h => hk y e (fun h' => absurd h' h)
 have p2 : ∀ t {k1 : zq11u β} {k2 : zq11v β}, (∀ e y, e ≠ 0 → G (k1 e y)) → G (k2 at_ who text x zq1h) → G (zq122 k1 k2 at_ who text t x zq1h) := fun t k1 k2 b h => by
  unfold zq122
  rw [Q0]
  unfold zq121
  refine w_c (fun _ => b _ _ (by decide)) (fun _ => w_e (Q6a _ (by omega) _) (w_nc (fun _ => b _ _ (by decide)) (fun _ => w_c (fun _ => b _ _ (by decide)) (fun _ => h))))
 unfold zq125
 rw [Q0]
 unfold zq124 zq11z
 rw [Q0]
 unfold zq11y
 have fin := w_e (G := G) (Q3s hz (fun rCopy rCopy2 rCopy3 rCopy4 rCopy5 rCopy6 rCopy7 rCopy8 rCopy9 lrCopy lrCopy2 lrCopy3 lrCopy4 lrCopy5 => cond (decide ((List.length lrCopy2 + List.length [(text, (who, (at_, (-1 : Int))))]) * 40 ≤ Q5)) (k (rCopy, (rCopy2, (rCopy3, (rCopy4, (rCopy5, ((rCopy6, (rCopy7, rCopy8)), (lrCopy, (lrCopy2 ++ [(text, (who, (at_, (-1 : Int))))], (lrCopy3, (lrCopy4, (lrCopy5, rCopy9))))))))))) 0) none)) (w_r (by simp only [List.length_singleton]; omega) (hk _ _ fun _ => { hm with
   ts := by
    show (x.2.2.2.2.2.2.2.1 ++ [(text, (who, (at_, (-1 : Int))))]).length ≤ B + 3
    rw [List.length_append, List.length_singleton]
    omega
   tt := Q2f (P := fun t : Q6l => t.1.length ≤ B + 3) hm.tt (by show text.length ≤ _; omega) }))
 exact Q4n hz fun e => w_nd (fun h => bad _ _ h) (fun _ => Q9v fun _ => w_nc (fun _ => p2 _ (fun _ _ h => bad _ _ h) fin) (fun _ => Q81 fun _ => p2 _ (fun _ _ h => bad _ _ h) fin))
theorem Qlj (hs : Sz B x) (hB : B ≤ 900) {task at_ : Int} {k : Inc → Int → Option β} (hk : ∀ y e, (e = 0 → Sz (B + 3) y) → G (k y e)) : G (zq129 x task at_ k) := by
 have hz := hs.sized (by omega)
 have hm := hs.mono (show B ≤ B + 3 by omega)
 have hc := hs.ts
 unfold Inc.ts at hc
 have bad : ∀ y e, e ≠ 0 → G (k y e) := fun y e h => hk y e (fun h' => absurd h' h)
 unfold zq129
 rw [Q0]
 unfold zq128
 refine Q4n hz fun e => w_nd (fun h => bad _ _ h) (fun _ => Q9v fun _ => w_nc (fun _ => bad _ _ (by decide)) (fun _ => ?_))
 rw [i64_in ((x.2.2.2.2.2.2.2.1.length : Int) - 1) (by omega)]
 refine in_w (fun h1 h2 => ?_) (fun _ => bad _ _ (by decide))
 have ht0 : task.toNat < x.2.2.2.2.2.2.2.1.length := by omega
 refine w_i (by omega) (w_c (fun _ => bad _ _ (by decide)) (fun _ => w_i (by omega) (w_c (fun _ => bad _ _ (by decide)) (fun _ => w_e (Q3s hz _) (w_i (by omega) (hk _ _ fun _ => { hm with
  ts := by
   show (List.set x.2.2.2.2.2.2.2.1 _ _).length ≤ B + 3
   rw [List.length_set]
   omega
  tt := fun t ht => (List.mem_or_eq_of_mem_set ht).elim (hm.tt t) (fun e => by
   rw [e]
   exact hm.tt (x.2.2.2.2.2.2.2.1.getD task.toNat ([], (0, (0, 0)))) (Q14 ht0)) }))))))
theorem Qo8 (hs : Sz B x) (hB : B ≤ 900) {who : Int} {k : Inc → Int → Option β} (hk : ∀ y e, (e = 0 → Sz (B + 3) y) → G (k y e)) : G (zq12d x who k) := by
 have hz := hs.sized (by omega)
 have hm := hs.mono (show B ≤ B + 3 by omega)
 have hc := hs.su
 unfold Inc.su at hc
 have bad : ∀ y e, e ≠ 0 → G (k y e) := fun y e h => hk y e (fun h' => absurd h' h)
 unfold zq12d
 rw [Q0]
 unfold zq12c
 refine Q4n hz fun e => w_nd (fun h => bad _ _ h) (fun _ => Q81 fun _ => w_nc (fun _ => bad _ _ (by decide)) (fun _ => w_e (Q40 _ (by omega) _ _) (w_c (fun _ => bad _ _ (by decide)) (fun _ => w_e (Q3s hz _) (Q6b (by omega) fun l hl => hk _ _ fun _ => { hm with su := ?_ })))))
 show l.length ≤ B + 3
 omega
theorem Qo9 (hs : Sz B x) (hB : B ≤ 900) {p : Int} {k : Inc → Int → Option β} (hk : ∀ y e, (e = 0 → Sz (B + 3) y) → G (k y e)) : G (zq12u x p k) := by
 have hz := hs.sized (by omega)
 have hm := hs.mono (show B ≤ B + 3 by omega)
 have hc := hs.pg
 unfold Inc.pg at hc
 have bad : ∀ y e, e ≠ 0 → G (k y e) := fun y e h => hk y e (fun h' => absurd h' h)
 unfold zq12u
 rw [Q0]
 unfold zq12t
 refine Q4n hz fun e => w_nd (fun h => bad _ _ h) (fun _ => Q9v fun _ => w_nc (fun _ => bad _ _ (by decide)) (fun _ => w_e (Q40 _ (by omega) _ _) (w_c (fun _ => bad _ _ (by decide)) (fun _ => w_c (fun _ => bad _ _ (by decide)) (fun _ => w_e (Q3s hz _) (Q6b (by omega) fun l hl => hk _ _ fun _ => { hm with pg := ?_ }))))))
 show l.length ≤ B + 3
 omega
theorem Qhn {at_ : Int} {text : List UInt8} {t6 : Inc} {o o2 o3 o4 o6 o7 o8 o9 : Int} {o5 : List UInt8} {b4 b7 : List Int} {b5 : List Q6l} {b6 : List IUpd} {b8 : List IChg} {k1 : zq12h β} :
  ∀ (m : Nat) (i : Int) (l : List Int) (N : Nat), l.length ≤ N → (N : Int) ≤ 1000 + i → 0 ≤ i → i ≤ 3 → (3 - i).toNat < m → (∀ l' : List Int, (l'.length : Int) ≤ N + 3 - i → G (k1 at_ text x t6 o o2 o3 o4 o5 o6 o7 o8 o9 l' b4 b5 b6 b7 b8)) → G (zq12l m k1 at_ text i x t6 o o2 o3 o4 o5 o6 o7 o8 o9 l b4 b5 b6 b7 b8)
 | 0, _, _, _, _, _, _, _, h, _ => absurd h (Nat.not_lt_zero _)
 | m + 1, i, l, N, hl, hN, h0, h3, hm, hk => by
  rw [zq12m]
  unfold zq12k
  have go : ∀ l' : List Int, l'.length ≤ N + 1 → i < 3 → G (zq12l m k1 at_ text (IntKind.i64.wrap (i + 1)) x t6 o o2 o3 o4 o5 o6 o7 o8 o9 l' b4 b5 b6 b7 b8) := fun l' hl' hi => by
   rw [i64_in (i + 1) (by omega)]
   exact Qhn m (i + 1) l' (N + 1) hl' (by omega) (by omega) (by omega) (by omega) (fun l'' h => hk l'' (by omega))
  refine w_d (fun hi => ?_) (fun hi => hk l (by omega))
  have gw : ∀ y, G (zq7c l y fun l' => zq12l m k1 at_ text (IntKind.i64.wrap (i + 1)) x t6 o o2 o3 o4 o5 o6 o7 o8 o9 l' b4 b5 b6 b7 b8) := fun y => Q6b (by omega) fun l' h => go l' (by omega) hi
  refine w_d (fun h0 => w_d (fun _ => w_d (fun _ => gw _) (fun h => absurd h0 h)) (fun _ => go _ (by omega) hi)) (fun h0 => w_d (fun h1 => w_d (fun _ => w_d (fun h => absurd h h0) (fun _ => w_d (fun _ => gw _) (fun h => absurd h1 h))) (fun _ => go _ (by omega) hi)) (fun h1 => w_d (fun h2 => w_d (fun _ => w_d (fun h => absurd h h0) (fun _ => w_d (fun h => absurd h h1) (fun _ => w_d (fun _ => gw _) (fun h => absurd h2 h)))) (fun _ => go _ (by omega) hi)) (fun h2 => by omega)))
theorem Qoa (hs : Sz B x) (hB : B ≤ 900) {at_ : Int} {text : List UInt8} (ht : text.length ≤ B) {k : Inc → Int → List Int → Option β} (hk : ∀ y e l, (e = 0 → Sz (B + 3) y) → G (k y e l)) : G (zq12q x at_ text k) := by
 have hz := hs.sized (by omega)
 have hm := hs.mono (show B ≤ B + 3 by omega)
 have hc := hs.su
 have hu := hs.up
 unfold Inc.su at hc
 unfold Inc.up at hu
 have bad : ∀ y e l, e ≠ 0 → G (k y e l) := fun y e l h => hk y e l (fun h' => absurd h' h)
 unfold zq12q
 rw [Q0]
 unfold zq12p
 refine Q4n hz fun e => w_nd (fun h => bad _ _ _ h) (fun _ => Qk2 hz fun _ => Q9v fun _ => w_nc (fun _ => bad _ _ _ (by decide)) (fun _ => w_e (Q6a _ (by omega) _) (w_nc (fun _ => bad _ _ _ (by decide)) (fun _ => w_c (fun _ => bad _ _ _ (by decide)) (fun _ => w_e (Q3s hz _) (w_r (by omega) ?_))))))
 unfold zq12n
 rw [Q0]
 refine Qhn _ 0 _ B hc (by omega) (by omega) (by omega) (Q3 (by decide)) fun l hl => w_r (by omega) (w_r (by simp only [List.length_singleton]; omega) (hk _ _ _ fun _ => { hm with up := ?_, ut := ?_, ul := ?_ }))
 ·show (x.2.2.2.2.2.2.2.2.1 ++ [(at_, (x.2.1, (text, l)))]).length ≤ B + 3
  rw [List.length_append, List.length_singleton]
  omega
 ·exact Q2f (P := fun u : IUpd => u.2.2.1.length ≤ B + 3) hm.ut (by show text.length ≤ _; omega)
 ·exact Q2f (P := fun u : IUpd => u.2.2.2.length ≤ B + 3) hm.ul (by show l.length ≤ _; omega)
theorem Qob {a b c : Int} {k : Inc → Int → Option β} (hk : ∀ y e, Sz 10 y → G (k y e)) : G (zq110 1 a b [116, 114, 111, 117, 98, 108, 101] c k) := by
 have nil : Sz 10 zq1h := ⟨by decide, by decide, by decide, by decide, by decide, by decide, fun _ h => absurd h List.not_mem_nil, fun _ h => absurd h List.not_mem_nil, fun _ h => absurd h List.not_mem_nil⟩
 have one : ∀ l : List Int, l.length ≤ 1 → Sz 10 (1, (0, (b, (a, ([116, 114, 111, 117, 98, 108, 101], ((-1, (-1, -1)), (l, ([], ([], ([], ([], 0))))))))))) := fun l hl => ⟨Nat.le_of_ble_eq_true rfl, by show l.length ≤ 10; omega, Nat.zero_le _, Nat.zero_le _, Nat.zero_le _, Nat.zero_le _, fun _ h => absurd h List.not_mem_nil, fun _ h => absurd h List.not_mem_nil, fun _ h => absurd h List.not_mem_nil⟩
 unfold zq110
 rw [Q0]
 unfold zq10z zq10x
 rw [Q0]
 unfold zq10w
 refine w_nd (fun _ => w_e (Q6m ((one [c] (Nat.le_refl 1)).sized (by decide)) _) (w_nc (fun _ => hk _ _ nil) (fun _ => hk _ _ (one [c] (Nat.le_refl 1))))) (fun _ => w_e (Q6m ((one [] (Nat.zero_le 1)).sized (by decide)) _) (w_nc (fun _ => hk _ _ nil) (fun _ => hk _ _ (one [] (Nat.zero_le 1)))))
theorem Qng (hs : Sz B x) (hB : B ≤ 900) (hB2 : 10 ≤ B) {now i e n : Int} {t : Bool} {d : Dice} (hd : Q9 d) {t6 y : Inc} {k1 : zq181 β} (h0 : e = 0 → Sz (B + 3) y) (h1 : ∀ e d' y', Q9 d' → (e = 0 → Sz (B + 3) y') → G (k1 now i e d' t6 x y')) : G (zq185 k1 now i e n t d t6 x y) := by
 unfold zq185
 rw [Q0]
 unfold zq184
 refine w_c (fun _ => Qc (by decide) hd fun _ d _ _ hd => Qc (by decide) hd fun _ d _ _ hd => Qo7 hs hB fun y e h => h1 _ _ _ hd h) (fun _ => ?_)
 refine w_c (fun _ => Qc (by decide) hd fun _ d _ _ hd => Qor hs hB (by show 5 ≤ B; omega) fun y e h => h1 _ _ _ hd h) (fun _ => ?_)
 refine w_c (fun _ => Qc (by decide) hd fun _ d _ _ hd => Qlj hs hB fun y e h => h1 _ _ _ hd h) (fun _ => ?_)
 refine w_c (fun _ => Qc (by decide) hd fun _ d _ _ hd => Qo8 hs hB fun y e h => h1 _ _ _ hd h) (fun _ => ?_)
 refine w_c (fun _ => Qoa hs hB (by show 4 ≤ B; omega) fun y e _ h => h1 _ _ _ hd h) (fun _ => ?_)
 exact w_c (fun _ => Qc (by decide) hd fun _ d _ _ hd => Qo9 hs hB fun y e h => h1 _ _ _ hd h) (fun _ => h1 _ _ _ hd h0)
theorem Qho {t6 : Inc} {k1 : zq17y β} (h1 : ∀ d x, Q9 d → Sz 100 x → G (k1 d t6 x)) :
  ∀ (m : Nat) (i now : Int) (d : Dice) (x : Inc) (B : Nat), Q9 d → Sz B x → 10 ≤ B → 0 ≤ i → (B : Int) + 3 * i ≤ 100 → i.toNat < m → G (zq188 m k1 now i d t6 x)
 | 0, _, _, _, _, _, _, _, _, _, _, h => absurd h (Nat.not_lt_zero _)
 | m + 1, i, now, d, x, B, hd, hs, h10, h0, hB, hm => by
  rw [zq189]
  unfold zq187
  refine w_d (fun h => ?_) (fun _ => h1 _ _ hd (hs.mono (by omega)))
  have e1 := i64_in (i - 1) (by omega)
  have go : ∀ now d y, Q9 d → Sz (B + 3) y → G (zq188 m k1 now (IntKind.i64.wrap (i - 1)) d t6 y) := fun now d y hd hy => by
   rw [e1]
   exact Qho h1 m (i - 1) now d y (B + 3) hd hy (by omega) (by omega) (by omega) (by omega)
  have hm3 := hs.mono (show B ≤ B + 3 by omega)
  have fin : ∀ now e d (y : Inc), Q9 d → (e = 0 → Sz (B + 3) y) → G (cond (decide (e = (0 : Int))) (zq188 m k1 now (IntKind.i64.wrap (i - 1)) d t6 y) (zq188 m k1 now (IntKind.i64.wrap (i - 1)) d t6 x)) := fun now e d y hd hy => w_d (fun h => go _ _ _ hd (hy h)) (fun _ => go _ _ _ hd hm3)
  refine Q16 ⟨by decide, by decide⟩ hd fun r d _ hd => Qc (by decide) hd fun n d _ _ hd => ?_
  refine w_c (fun _ => Qc (by decide) hd fun _ d _ _ hd => Qc (by decide) hd fun _ d _ _ hd => Qli hs (by omega) fun y e h => fin _ _ _ _ hd h) (fun _ => ?_)
  have p1 := fun (n : Int) (t : Bool) => Qng (G := G) (now := IntKind.i64.wrap (now + r)) (i := i) (e := 0) (n := n) (t := t) (t6 := t6) (y := x) hs (by omega) h10 hd (k1 := fun now3 i_2 e d2 t62 x2 y => cond (decide (e = (0 : Int))) (zq188 m k1 now3 (IntKind.i64.wrap (i_2 - 1)) d2 t62 y) (zq188 m k1 now3 (IntKind.i64.wrap (i_2 - 1)) d2 t62 x2)) (fun _ => hm3) (fun e d y hd h => fin _ _ _ _ hd h)
  exact w_c (fun _ => p1 _ _) (fun _ => w_c (fun _ => p1 _ _) (fun _ => p1 _ _))
theorem Qoc {d : Dice} (hd : Q9 d) {k : Inc → Dice → Option β} (hk : ∀ x d', Q9 d' → Sz 100 x → G (k x d')) : G (zq18d 1 8 d k) := by
 unfold zq18d
 rw [Q0]
 unfold zq18c zq18a
 rw [Q0]
 refine Q16 ⟨by decide, by decide⟩ hd fun r d _ hd => Qc (by decide) hd fun n d _ _ hd => Qc (by decide) hd fun n d _ _ hd => Qob fun y e hy => ?_
 rw [i64_in ((8 : Int) + 1) (by decide)]
 exact Qc (by decide) hd fun n d h0 hn hd => Qho (fun d x hd hx => hk _ _ hd hx) _ _ _ _ _ 10 hd hy (by decide) h0 (by have := hn (by decide); omega) (Q3 (by have := hn (by decide); omega))
end
end
end Go.Lift
namespace Go.Lift
open Go.RowKit Go.IntWalk
noncomputable section
set_option linter.unusedVariables false
set_option linter.unusedSimpArgs false
theorem c_nt {β : Type} {a b : Option β} : cond (!true) a b = b := rfl
theorem c_nf {β : Type} {a b : Option β} : cond (!false) a b = a := rfl
theorem Q82 {α : Type} {l : List α} {i : Nat} {d : α} (h : i < l.length) : l.getD i d ∈ l := by simp [List.getD, h]
abbrev Mat := List (List Int)
def at2 (m : Mat) (i j : Nat) : Int := (m.getD i []).getD j 0
structure Sq (n : Nat) (m : Mat) : Prop where
 len : m.length = n
 row : ∀ i, i < n → (m.getD i []).length = n
def setAt (m : Mat) (i j : Nat) (v : Int) : Mat := m.set i ((m.getD i []).set j v)
theorem Q1z {α : Type} {l : List α} {i : Nat} {v d : α} (h : i < l.length) : (l.set i v).getD i d = v := by simp [List.getD, h]
theorem Q4y {α : Type} {l : List α} {i j : Nat} {v d : α} (h : i ≠ j) : (l.set i v).getD j d = l.getD j d := by simp [List.getD, List.getElem?_set_ne h]
theorem Sq.setAt {n : Nat} {m : Mat} (h : Sq n m) (i j : Nat) (v : Int) : Sq n (setAt m i j v) := by
 refine ⟨by simp [Go.Lift.setAt, h.len], fun a ha => ?_⟩
 by_cases hi : i = a
 ·subst hi
  unfold Go.Lift.setAt
  rw [Q1z (by rw [h.len]; exact ha), List.length_set]
  exact h.row i ha
 ·unfold Go.Lift.setAt
  rw [Q4y hi]
  exact h.row a ha
theorem Qar {n : Nat} {m : Mat} (h : Sq n m) {i j : Nat} (hi : i < n) (hj : j < n) (v : Int) (a b : Nat) : at2 (setAt m i j v) a b = if a = i ∧ b = j then v else at2 m a b := by
 unfold at2 setAt
 by_cases hai : i = a
 ·subst hai
  rw [Q1z (by rw [h.len]; exact hi)]
  by_cases hbj : j = b
  ·subst hbj
   rw [Q1z (by rw [h.row i hi]; exact hj), if_pos ⟨rfl, rfl⟩]
  ·rw [Q4y hbj, if_neg (fun h => hbj h.2.symm)]
 ·rw [Q4y hai, if_neg (fun h => hai h.1.symm)]
theorem Qnh {n : Nat} {m m' : Mat} (h : Sq n m) (h' : Sq n m') (he : ∀ i j, i < n → j < n → at2 m i j = at2 m' i j) : m = m' := by
 apply List.ext_getElem
 ·rw [h.len, h'.len]
 ·intro i h1 h2
  have hi : i < n := by rw [← h.len]; exact h1
  have e1 : m.getD i [] = m[i] := by rw [List.getD, List.getElem?_eq_getElem h1]; rfl
  have e2 : m'.getD i [] = m'[i] := by rw [List.getD, List.getElem?_eq_getElem h2]; rfl
  apply List.ext_getElem
  ·rw [← e1, ← e2, h.row i hi, h'.row i hi]
  ·intro j h3 h4
   have hj : j < n := by rw [← h.row i hi, e1]; exact h3
   have := he i j hi hj
   unfold at2 at this
   rw [e1, e2] at this
   have q1 : m[i].getD j 0 = m[i][j] := by rw [List.getD, List.getElem?_eq_getElem h3]; rfl
   have q2 : m'[i].getD j 0 = m'[i][j] := by rw [List.getD, List.getElem?_eq_getElem h4]; rfl
   rw [q1, q2] at this
   exact this
abbrev BIG : Int := 1099511627776
def relaxW (k i j : Nat) (m : Mat) : Mat :=
 if at2 m i k = BIG ∨ at2 m k j = BIG then m
 else setAt m i j (if IntKind.i64.wrap (at2 m i k + at2 m k j) < at2 m i j then IntKind.i64.wrap (at2 m i k + at2 m k j) else at2 m i j)
def rowW (n k i : Nat) (m : Mat) : Mat := (List.range n).foldl (fun m j => relaxW k i j m) m
def roundW (n k : Nat) (m : Mat) : Mat := (List.range n).foldl (fun m i => rowW n k i m) m
theorem Sq.relaxW {n : Nat} {m : Mat} (h : Sq n m) (k i j : Nat) : Sq n (relaxW k i j m) := by
 unfold Go.Lift.relaxW
 split
 ·exact h
 ·exact h.setAt _ _ _
theorem Q4o {α σ : Type} (I : σ → Prop) (g : σ → α → σ) (hg : ∀ s x, I s → I (g s x)) : ∀ (l : List α) (s : σ), I s → I (l.foldl g s)
 | [], _, h => h
 | x :: l, s, h => Q4o I g hg l _ (hg s x h)
theorem Sq.rowW {n : Nat} {m : Mat} (h : Sq n m) (k i : Nat) : Sq n (rowW n k i m) := Q4o (Sq n) _ (fun m j h => h.relaxW k i j) _ _ h
theorem Sq.roundW {n : Nat} {m : Mat} (h : Sq n m) (k : Nat) : Sq n (roundW n k m) := Q4o (Sq n) _ (fun m i h => h.rowW k i) _ _ h
end
end Go.Lift
namespace Go.Lift
open Go.RowKit Go.IntWalk
noncomputable section
set_option linter.unusedVariables false
set_option linter.unusedSimpArgs false
set_option maxRecDepth 10000
theorem Q2c {n i : Nat} (h : i < n) : (List.range n).getD i 0 = i := by simp [List.getD, h]
section
variable {β : Type}
theorem Qlk {n : Nat} (hn : n ≤ 100) {k i : Nat} (hk : k < n) (hi : i < n) {m : Mat} (hm : Sq n m) (a b c d : Int) (k1 : zq1im β) :
  zq1j3 k1 (n : Int) (k : Int) (i : Int) a b c d (n : Int) 0 m = k1 (n : Int) (k : Int) a b c d (rowW n k i m) := by
 have key := Q1i (fun _ m => Sq n m) (fun f j m => zq1j1 f k1 (n : Int) (k : Int) (i : Int) a b c d (n : Int) j m) (fun m j => relaxW k i j m) (fun m => k1 (n : Int) (k : Int) a b c d m) 0 (List.range n) m fuel (Q3 (by simp; omega)) hm
  (fun j m hj hm => hm.relaxW _ _ _)
  (fun f j m hj hm => by
   have hj : j < n := by simpa using hj
   have e1 : IntKind.i64.wrap ((j : Int) + 1) = j + 1 := i64_in _ (by omega)
   rw [Q2c hj, zq1j2]
   unfold zq1j0
   simp only [Int.toNat_natCast]
   have l0 := hm.len
   have l1 := hm.row i hi
   have l2 := hm.row k hk
   refine (Q8 (by omega)).trans ?_
   refine (Q6 (by omega)).trans ?_
   refine (Q6 (by omega)).trans ?_
   have hq : ∀ (t : Bool), (zq1iy (fun (n2 : Int) (k_2 : Int) (i_2 : Int) (t382 : Int) (t392 : Int) (t422 : Int) (t432 : Int) (t462 : Int) (t472 : Int) (m2 : List (List Int)) => zq1j1 f k1 n2 k_2 i_2 t382 t392 t422 t432 t462 (IntKind.i64.wrap (t472 + (1 : Int))) m2) (n : Int) (k : Int) (i : Int) (j : Int) a b c d (n : Int) (j : Int) t m : Option β) =
     zq1j1 f k1 (n : Int) (k : Int) (i : Int) a b c d (n : Int) ((j : Int) + 1) (if t then setAt m i j (if IntKind.i64.wrap (at2 m i k + at2 m k j) < at2 m i j then IntKind.i64.wrap (at2 m i k + at2 m k j) else at2 m i j) else m) := fun t => by
    unfold zq1iy
    rw [Q0]
    unfold zq1ix
    cases t with
    | false =>
     simp only [cond_false, e1]
     rfl
    | true =>
     simp only [cond_true, Int.toNat_natCast, e1]
     refine (Q6 (by omega)).trans ?_
     refine (Q6 (by omega)).trans ?_
     refine (Q6 (by omega)).trans ?_
     refine (Q6 (by omega)).trans ?_
     refine (Q6 (by omega)).trans ?_
     refine (Q6 (by omega)).trans ?_
     refine (Q6 (by omega)).trans ?_
     refine (Q6 (by omega)).trans ?_
     rfl
   by_cases h1 : at2 m i k = BIG
   ·refine (Q3f (show (m.getD i []).getD k 0 = (1099511627776 : Int) from h1)).trans ?_
    refine (hq false).trans ?_
    have : relaxW k i j m = m := by unfold relaxW; rw [if_pos (.inl h1)]
    rw [this]
    rfl
   ·refine (Q1d (show ¬ (m.getD i []).getD k 0 = (1099511627776 : Int) from h1)).trans ?_
    refine (Q6 (by omega)).trans ?_
    refine (Q6 (by omega)).trans ?_
    refine (hq _).trans ?_
    by_cases h2 : at2 m k j = BIG
    ·have : relaxW k i j m = m := by unfold relaxW; rw [if_pos (.inr h2)]
     rw [this, decide_eq_true (show (m.getD k []).getD j 0 = (1099511627776 : Int) from h2)]
     rfl
    ·have : relaxW k i j m = setAt m i j (if IntKind.i64.wrap (at2 m i k + at2 m k j) < at2 m i j then IntKind.i64.wrap (at2 m i k + at2 m k j) else at2 m i j) := by unfold relaxW; rw [if_neg (fun h => h.elim h1 h2)]
     rw [this, decide_eq_false (show ¬ (m.getD k []).getD j 0 = (1099511627776 : Int) from h2)]
     rfl)
  (fun f m hm => by
   rw [zq1j2]
   unfold zq1j0
   exact Qa (by simp))
 unfold zq1j3
 rw [Q0]
 exact key
theorem Qll {n : Nat} (hn : n ≤ 100) {k : Nat} (hk : k < n) {m : Mat} (hm : Sq n m) (a b : Int) (k1 : zq1ij β) :
  zq1j8 k1 (n : Int) (k : Int) a b (n : Int) 0 m = k1 (n : Int) (k : Int) a b (roundW n k m) := by
 have key := Q1i (fun _ m => Sq n m) (fun f j m => zq1j6 f k1 (n : Int) (k : Int) a b (n : Int) j m) (fun m i => rowW n k i m) (fun m => k1 (n : Int) (k : Int) a b m) 0 (List.range n) m fuel (Q3 (by simp; omega)) hm
  (fun j m hj hm => hm.rowW _ _)
  (fun f j m hj hm => by
   have hj : j < n := by simpa using hj
   have e1 : IntKind.i64.wrap ((j : Int) + 1) = j + 1 := i64_in _ (by omega)
   rw [Q2c hj, zq1j7]
   unfold zq1j5
   refine (Q8 (by omega)).trans ?_
   refine (Qlk hn hk hj hm _ _ _ _ _).trans ?_
   simp only [e1])
  (fun f m hm => by
   rw [zq1j7]
   unfold zq1j5
   exact Qa (by simp))
 unfold zq1j8
 rw [Q0]
 exact key
def Q1e (n : Nat) : Nat → Nat → Mat → Option Mat
 | 0, _, m => some m
 | c + 1, k, m => if at2 (roundW n k m) k k < 0 then none else Q1e n c (k + 1) (roundW n k m)
theorem Q83 {n : Nat} : ∀ (c k : Nat) (m m' : Mat), Sq n m → Q1e n c k m = some m' → Sq n m'
 | 0, k, m, m', h, e => by cases e; exact h
 | c + 1, k, m, m', h, e => by
  unfold Q1e at e
  split at e
  ·cases e
  ·exact Q83 c (k + 1) _ m' (h.roundW k) e
theorem Qbt {n : Nat} (hn : n ≤ 100) (k1 : zq1ib β) (k2 : zq1ic β) : ∀ (c k f : Nat) (m : Mat), k + c = n → c < f → Sq n m →
  zq1jb f k1 k2 (n : Int) (n : Int) (k : Int) m = (match Q1e n c k m with | some m' => k2 (n : Int) m' | none => k1 false [])
 | 0, k, f + 1, m, h, hf, hm => by
  rw [zq1jc]
  unfold zq1ja
  exact Qa (by omega)
 | c + 1, k, f + 1, m, h, hf, hm => by
  rw [zq1jc]
  unfold zq1ja
  have hk : k < n := by omega
  refine (Q8 (by omega)).trans ?_
  refine (Qll hn hk hm _ _ _).trans ?_
  have hm' := hm.roundW k
  have l0 := hm'.len
  have l1 := hm'.row k hk
  have e1 : IntKind.i64.wrap ((k : Int) + 1) = ((k + 1 : Nat) : Int) := i64_in _ (by omega)
  simp only [Int.toNat_natCast]
  refine (Q6 (by omega)).trans ?_
  refine (Q6 (by omega)).trans ?_
  unfold Q1e
  by_cases h2 : at2 (roundW n k m) k k < 0
  ·refine (Q8 h2).trans ?_
   rw [if_pos h2]
  ·refine (Qa h2).trans ?_
   rw [if_neg h2, e1]
   exact Qbt hn k1 k2 c (k + 1) f _ (by omega) (by omega) hm'
 | _, _, 0, _, _, hf, _ => absurd hf (by omega)
theorem Qlm {n : Nat} (hn : n ≤ 100) (k1 : zq1ib β) (k2 : zq1ic β) {m : Mat} (hm : Sq n m) :
  zq1jd k1 k2 (n : Int) (n : Int) 0 m = (match Q1e n n 0 m with | some m' => k2 (n : Int) m' | none => k1 false []) := by
 unfold zq1jd
 rw [Q0]
 exact Qbt hn k1 k2 n 0 fuel m (by omega) (Q3 (by omega)) hm
def Q23 (n : Nat) (m : Mat) : Bool := (List.range n).all fun i => decide (¬ at2 m i i < 0)
theorem Qln {n : Nat} (hn : n ≤ 100) (k1 : zq1if β) (k2 : zq1ig β) {m : Mat} (hm : Sq n m) :
  zq1ji k1 k2 (n : Int) 0 m = cond (Q23 n m) (k2 m) (k1 false []) := by
 have key := Qk (fun f j => zq1jg f k1 k2 (n : Int) j m) (fun i => decide (¬ at2 m i i < 0)) (k1 false []) (k2 m) 0 (List.range n) fuel (Q3 (by simp; omega))
  (fun f j hj => by
   have hj : j < n := by simpa using hj
   have e1 : IntKind.i64.wrap ((j : Int) + 1) = j + 1 := i64_in _ (by omega)
   have l0 := hm.len
   have l1 := hm.row j hj
   rw [Q2c hj, zq1jh]
   unfold zq1jf
   simp only [Int.toNat_natCast, e1]
   refine (Q8 (by omega)).trans ?_
   refine (Q6 (by omega)).trans ?_
   refine (Q6 (by omega)).trans ?_
   by_cases h2 : at2 m j j < 0
   ·refine (Q8 h2).trans ?_
    simp [h2]
   ·refine (Qa h2).trans ?_
    simp [h2])
  (fun f => by
   rw [zq1jh]
   unfold zq1jf
   exact Qa (by simp))
 unfold zq1ji
 rw [Q0]
 exact key
def diagW (n : Nat) (m : Mat) : Mat := (List.range n).foldl (fun m i => setAt m i i (if 0 < at2 m i i then 0 else at2 m i i)) m
theorem Sq.diagW {n : Nat} {m : Mat} (h : Sq n m) : Sq n (diagW n m) := Q4o (Sq n) _ (fun m i h => h.setAt _ _ _) _ _ h
theorem Qlo {n : Nat} (hn : n ≤ 100) (k1 : zq1i8 β) {m : Mat} (hm : Sq n m) :
  zq1iv k1 (n : Int) (n : Int) 0 m = k1 (n : Int) (diagW n m) := by
 have key := Q1i (fun _ m => Sq n m) (fun f j m => zq1it f k1 (n : Int) (n : Int) j m) (fun m i => setAt m i i (if 0 < at2 m i i then 0 else at2 m i i)) (fun m => k1 (n : Int) m) 0 (List.range n) m fuel (Q3 (by simp; omega)) hm
  (fun j m hj hm => hm.setAt _ _ _)
  (fun f j m hj hm => by
   have hj : j < n := by simpa using hj
   have e1 : IntKind.i64.wrap ((j : Int) + 1) = j + 1 := i64_in _ (by omega)
   have l0 := hm.len
   have l1 := hm.row j hj
   rw [Q2c hj, zq1iu]
   unfold zq1is
   simp only [Int.toNat_natCast, e1]
   refine (Q8 (by omega)).trans ?_
   refine (Q6 (by omega)).trans ?_
   refine (Q6 (by omega)).trans ?_
   refine (Q6 (by omega)).trans ?_
   refine (Q6 (by omega)).trans ?_
   rfl)
  (fun f m hm => by
   rw [zq1iu]
   unfold zq1is
   exact Qa (by simp))
 unfold zq1iv
 rw [Q0]
 exact key
end
abbrev Diff := Int × (Int × Int)
section
variable {β : Type}
theorem Q6c (n low high : Int) (k : Bool → Option β) : zqj3 n low high k = k (decide (low ≤ n) && decide (n ≤ high)) := by
 unfold zqj3
 rw [Q0]
 unfold zqj2
 by_cases h : low ≤ n <;> simp [h]
def Q1j (n : Nat) (d : Diff) : Bool := decide (0 ≤ d.1 ∧ d.1 < n ∧ 0 ≤ d.2.1 ∧ d.2.1 < n ∧ -17179869184 ≤ d.2.2 ∧ d.2.2 ≤ 17179869184)
theorem Qgs {n : Nat} (hn : n ≤ 100) (d : Diff) (k : Bool → Int → Option β) : zqj7 d (n : Int) k = k (!Q1j n d) (n : Int) := by
 have e1 : IntKind.i64.wrap ((n : Int) - 1) = n - 1 := i64_in _ (by omega)
 unfold zqj7
 rw [Q0]
 unfold zqj6
 simp only [Q6c, e1]
 unfold Q1j
 by_cases h1 : 0 ≤ d.1 ∧ d.1 ≤ (n : Int) - 1
 ·rw [decide_eq_true h1.1, decide_eq_true h1.2]
  simp only [Bool.and_self, Bool.not_true, cond_false]
  by_cases h2 : 0 ≤ d.2.1 ∧ d.2.1 ≤ (n : Int) - 1
  ·rw [decide_eq_true h2.1, decide_eq_true h2.2]
   simp only [Bool.and_self, Bool.not_true, cond_false]
   congr 1
   congr 1
   rw [← Bool.decide_and]
   exact decide_eq_decide.2 (by omega)
  ·rw [show (decide (0 ≤ d.2.1) && decide (d.2.1 ≤ (n : Int) - 1)) = false by rw [← Bool.decide_and]; exact decide_eq_false h2]
   simp only [Bool.not_false, cond_true]
   congr 1
   rw [decide_eq_false (by omega)]
   rfl
 ·rw [show (decide (0 ≤ d.1) && decide (d.1 ≤ (n : Int) - 1)) = false by rw [← Bool.decide_and]; exact decide_eq_false h1]
  simp only [Bool.not_false, cond_true]
  congr 1
  rw [decide_eq_false (by omega)]
  rfl
theorem Qod {n : Nat} (hn : n ≤ 100) {l : List Diff} (hl : l.length ≤ 100000) (k : Bool → Int → Option β) :
  zq1fp l (n : Int) k = k (!l.all (Q1j n)) (n : Int) := by
 unfold zq1fp
 rw [Q0]
 unfold zq1fo
 unfold zq1de
 rw [Q0]
 unfold zq1dd
 unfold zq1db
 rw [Q0]
 refine (Qk (fun f j => zq1d9 f (fun (t4 : Int) (b0_2 : Int) => k (decide ((0 : Int) ≤ t4)) b0_2) (fun (b0_2 : Int) => k (decide ((0 : Int) ≤ -1)) b0_2) l (l.length : Int) j (n : Int)) (Q1j n) (k true (n : Int)) (k false (n : Int)) ((0 : Int), ((0 : Int), (0 : Int))) l fuel (Q3 (by omega))
  (fun f j hj => ?_) (fun f => ?_)).trans ?_
 ·have e1 : IntKind.i64.wrap ((j : Int) + 1) = j + 1 := i64_in _ (by omega)
  rw [zq1da]
  unfold zq1d8
  refine (Q8 (by omega)).trans ?_
  refine (Q6 (by omega)).trans ?_
  simp only [Int.toNat_natCast, e1]
  refine (Qgs hn _ _).trans ?_
  cases h : Q1j n (l.getD j ((0 : Int), ((0 : Int), (0 : Int)))) with
  | true => simp
  | false => simp
 ·rw [zq1da]
  unfold zq1d8
  refine (Qa (by omega)).trans ?_
  simp
 ·cases l.all (Q1j n) <;> rfl
def Q4b (n : Nat) (l : List Diff) : Bool := decide (l.length ≤ 4000) && l.all (Q1j n)
theorem Qlp {n : Nat} (h1 : 1 ≤ n) (hn : n ≤ 41) {l : List Diff} (k : Bool → Option β) : zq1g9 (n : Int) l k = k (Q4b n l) := by
 unfold zq1g9
 rw [Q0]
 unfold zq1g8
 refine (Q6c _ _ _ _).trans ?_
 rw [decide_eq_true (show (1 : Int) ≤ n by omega), decide_eq_true (show (n : Int) ≤ 41 by omega)]
 simp only [Bool.and_self, Bool.not_true, cond_false]
 unfold Q4b
 by_cases hl : l.length ≤ 4000
 ·refine (Qa (by omega)).trans ?_
  refine (Qod (by omega) (by omega) _).trans ?_
  rw [decide_eq_true hl]
  simp
 ·refine (Q8 (by omega)).trans ?_
  rw [decide_eq_false hl]
  rfl
end
def bigM (n : Nat) : Mat := List.replicate n (List.replicate n BIG)
def putW (m : Mat) (d : Diff) : Mat := setAt m d.1.toNat d.2.1.toNat (if d.2.2 < at2 m d.1.toNat d.2.1.toNat then d.2.2 else at2 m d.1.toNat d.2.1.toNat)
def Q39 (n : Nat) (l : List Diff) : Mat := l.foldl putW (bigM n)
theorem Qck (n : Nat) : Sq n (bigM n) := by
 refine ⟨by simp [bigM], fun i hi => ?_⟩
 simp [bigM, List.getD, hi]
theorem Sq.putW {n : Nat} {m : Mat} (h : Sq n m) (d : Diff) : Sq n (putW m d) := h.setAt _ _ _
theorem Q2d (n : Nat) (l : List Diff) : Sq n (Q39 n l) := Q4o (Sq n) _ (fun m d h => h.putW d) _ _ (Qck n)
theorem Qdw {α : Type} {l : List α} {i : Nat} {d : α} (h : i < l.length) : l.set i (l.getD i d) = l := by
 apply List.ext_getElem
 ·simp
 ·intro j h1 h2
  rw [List.getElem_set]
  split
  ·subst_vars; simp [List.getD, h]
  ·rfl
theorem Qfr {α : Type} (v : α) (n : Nat) (r : List α) (h : r.length = n) : (List.range n).foldl (fun r j => r.set j v) r = List.replicate n v := by
 have key : ∀ (c : Nat), c ≤ n → (List.range c).foldl (fun r j => r.set j v) r = List.replicate c v ++ r.drop c := by
  intro c
  induction c with
  | zero => intro _; simp
  | succ c ih =>
   intro hc
   rw [List.range_succ, List.foldl_append, ih (by omega)]
   simp only [List.foldl_cons, List.foldl_nil]
   rw [List.set_append_right _ _ (by simp)]
   simp only [List.length_replicate, Nat.sub_self]
   rw [List.drop_eq_getElem_cons (by omega), List.set_cons_zero, List.replicate_succ', List.append_assoc]
   rfl
 rw [key n (Nat.le_refl n), List.drop_eq_nil_of_le (by omega), List.append_nil]
theorem Qfs (v : Int) (i : Nat) : ∀ (l : List Nat) (out : Mat), i < out.length →
  l.foldl (fun m j => setAt m i j v) out = out.set i (l.foldl (fun r j => r.set j v) (out.getD i []))
 | [], out, h => by simp only [List.foldl_nil]; rw [Qdw h]
 | j :: l, out, h => by
  simp only [List.foldl_cons]
  rw [Qfs v i l _ (by simpa [setAt] using h)]
  unfold setAt
  rw [Q1z h, List.set_set]
section
variable {β : Type}
theorem Qk3 {n : Nat} {c : Nat} {a b : Option β} (hn : n ≤ 10000) (hc : c ≤ 1000) : cond (decide (0 ≤ (n : Int)) && (decide ((n : Int) = (n : Int)) && (decide (Int.toNat (n : Int) * c ≤ Q5) && decide ((n : Int) ≤ 9223372036854775807)))) a b = a := by
 have h1 : Int.toNat (n : Int) * c ≤ Q5 := by
  rw [Int.toNat_natCast]
  exact Nat.le_trans (Nat.mul_le_mul hn hc) (by decide)
 rw [decide_eq_true (show (0 : Int) ≤ n by omega), decide_eq_true (rfl : (n : Int) = n), decide_eq_true h1, decide_eq_true (show (n : Int) ≤ 9223372036854775807 by omega)]
 rfl
theorem Qk4 {n : Nat} (hn : n ≤ 100) (k1 : zqfj β) (l : List Diff) {i : Nat} (hi : i < n) (a b : Int) {out : Mat} (h0 : out.length = n) (h1 : (out.getD i []).length = n) :
  zqfp k1 (n : Int) l (i : Int) a b (n : Int) 0 out = k1 (n : Int) l a b (out.set i (List.replicate n BIG)) := by
 have key := Q1i (fun _ (m : Mat) => m.length = n ∧ (m.getD i []).length = n) (fun f j m => zqfn f k1 (n : Int) l (i : Int) a b (n : Int) j m) (fun m j => setAt m i j BIG) (fun m => k1 (n : Int) l a b m) 0 (List.range n) out fuel (Q3 (by simp; omega)) ⟨h0, h1⟩
  (fun j m hj hm => by
   refine ⟨by simp [setAt, hm.1], ?_⟩
   unfold setAt
   rw [Q1z (by omega), List.length_set]
   exact hm.2)
  (fun f j m hj hm => by
   have hj : j < n := by simpa using hj
   have e1 : IntKind.i64.wrap ((j : Int) + 1) = j + 1 := i64_in _ (by omega)
   have l0 := hm.1
   have l1 := hm.2
   rw [Q2c hj, zqfo]
   unfold zqfm
   simp only [Int.toNat_natCast, e1]
   refine (Q8 (by omega)).trans ?_
   refine (Q6 (by omega)).trans ?_
   refine (Q6 (by omega)).trans ?_
   rfl)
  (fun f m hm => by
   rw [zqfo]
   unfold zqfm
   exact Qa (by simp))
 unfold zqfp
 rw [Q0]
 refine key.trans ?_
 rw [Qfs BIG i _ _ (by omega), Qfr BIG n _ h1]
theorem Qk5 {n : Nat} (hn : n ≤ 100) (k1 : zqfd β) (l : List Diff) :
  zqfu k1 (n : Int) l (n : Int) 0 (List.replicate n []) = k1 l (bigM n) := by
 have key := Q1i (fun _ (m : Mat) => m.length = n) (fun f j m => zqfs f k1 (n : Int) l (n : Int) j m) (fun m j => m.set j (List.replicate n BIG)) (fun m => k1 l m) 0 (List.range n) (List.replicate n []) fuel (Q3 (by simp; omega)) (by simp)
  (fun j m hj hm => by rw [List.length_set]; exact hm)
  (fun f j m hj hm => by
   have hj : j < n := by simpa using hj
   have e1 : IntKind.i64.wrap ((j : Int) + 1) = j + 1 := i64_in _ (by omega)
   rw [Q2c hj, zqft]
   unfold zqfr
   refine (Q8 (by omega)).trans ?_
   refine (Qk3 (by omega) (by omega)).trans ?_
   refine (Q6 (by omega)).trans ?_
   simp only [Int.toNat_natCast]
   refine (Q6 (by rw [List.length_set]; omega)).trans ?_
   rw [Q1z (show j < m.length by omega), List.length_replicate]
   refine (Qk4 hn _ l hj _ _ (by rw [List.length_set]; exact hm) (by rw [Q1z (show j < m.length by omega), List.length_replicate])).trans ?_
   simp only [e1, List.set_set])
  (fun f m hm => by
   rw [zqft]
   unfold zqfr
   exact Qa (by simp))
 unfold zqfu
 rw [Q0]
 refine key.trans ?_
 rw [Qfr (List.replicate n BIG) n _ (by simp)]
 rfl
theorem Qk6 {n : Nat} (hn : n ≤ 100) (k1 : zqfg β) {l : List Diff} (hl : l.length ≤ 4000) (ho : l.all (Q1j n) = true) {m : Mat} (hm : Sq n m) :
  zqfz k1 l (l.length : Int) 0 m = k1 (l.foldl putW m) := by
 have key := Q1i (fun _ (m : Mat) => Sq n m) (fun f j m => zqfx f k1 l (l.length : Int) j m) putW (fun m => k1 m) ((0 : Int), ((0 : Int), (0 : Int))) l m fuel (Q3 (by omega)) hm
  (fun j m hj hm => hm.putW _)
  (fun f j m hj hm => by
   have e1 : IntKind.i64.wrap ((j : Int) + 1) = j + 1 := i64_in _ (by omega)
   rw [zqfy]
   unfold zqfw
   refine (Q8 (by omega)).trans ?_
   refine (Q6 (by omega)).trans ?_
   simp only [Int.toNat_natCast, e1]
   have hd : Q1j n (l.getD j ((0 : Int), ((0 : Int), (0 : Int)))) = true := by
    rw [List.all_eq_true] at ho
    refine ho _ ?_
    rw [List.getD, List.getElem?_eq_getElem hj]
    exact List.getElem_mem hj
   have hd := of_decide_eq_true hd
   have l0 := hm.len
   have l1 := hm.row (l.getD j ((0 : Int), ((0 : Int), (0 : Int)))).1.toNat (by omega)
   refine (Q6 (by omega)).trans ?_
   refine (Q6 (by omega)).trans ?_
   refine (Q6 (by omega)).trans ?_
   refine (Q6 (by omega)).trans ?_
   rfl)
  (fun f m hm => by
   rw [zqfy]
   unfold zqfw
   exact Qa (by omega))
 unfold zqfz
 rw [Q0]
 exact key
theorem Qk7 {n : Nat} (hn : n ≤ 100) {l : List Diff} (hl : l.length ≤ 4000) (ho : l.all (Q1j n) = true) (k : Mat → Option β) : zqg2 (n : Int) l k = k (Q39 n l) := by
 unfold zqg2
 rw [Q0]
 unfold zqg1
 refine (Qk3 (by omega) (by omega)).trans ?_
 simp only [Int.toNat_natCast, List.length_replicate]
 refine (Qk5 hn _ l).trans ?_
 exact Qk6 hn _ hl ho (Qck n)
def Q7k (n : Nat) (l : List Diff) : Option Mat :=
 if Q4b n l then
  match Q1e n n 0 (diagW n (Q39 n l)) with
  | some m => if Q23 n m then some m else none
  | none => none
 else none
theorem Qlq {n : Nat} (h1 : 1 ≤ n) (hn : n ≤ 41) (l : List Diff) (k : Mat → Bool → Option β) : zq1jl (n : Int) l k = (match Q7k n l with | some m => k m true | none => k [] false) := by
 unfold zq1jl
 rw [Q0]
 unfold zq1jk
 refine (Qlp h1 hn _).trans ?_
 unfold Q7k
 by_cases hv : Q4b n l = true
 ·rw [hv]
  have hv' := hv
  unfold Q4b at hv'
  rw [Bool.and_eq_true] at hv'
  simp only [Bool.not_true, cond_false, if_true]
  refine (Qk7 (by omega) (of_decide_eq_true hv'.1) hv'.2 _).trans ?_
  refine (Qlo (by omega) _ (Q2d n l)).trans ?_
  refine (Qlm (by omega) _ _ (Q2d n l).diagW).trans ?_
  cases hr : Q1e n n 0 (diagW n (Q39 n l)) with
  | none => rfl
  | some m =>
   simp only []
   refine (Qln (by omega) _ _ (Q83 n 0 _ _ (Q2d n l).diagW hr)).trans ?_
   cases Q23 n m <;> rfl
 ·rw [Bool.eq_false_iff.2 hv]
  rfl
end
end
end Go.Lift
namespace Go.Lift
open Go.RowKit Go.IntWalk
noncomputable section
set_option linter.unusedVariables false
set_option linter.unusedSimpArgs false
set_option maxRecDepth 10000
def inN (n low high : Int) : Bool := decide (low ≤ n) && decide (n ≤ high)
theorem Qy {n low high : Int} : inN n low high = true ↔ low ≤ n ∧ n ≤ high := by simp [inN]
theorem Qbu {n low high : Int} (h : low ≤ n ∧ n ≤ high) : inN n low high = true := Qy.2 h
abbrev Host := List UInt8 × Int
abbrev Sync := Int × Int × Int × Int
abbrev Q3l := Int × Int × List UInt8
abbrev Link := Int × Int × Int
abbrev Rec := List Host × List Sync × List Q3l × List Link
def Q3h (s : Sync) : Bool := inN s.2.1 0 8589934592 && (inN s.2.2.1 0 8589934592 && (inN s.2.2.2 0 8589934592 && decide (s.2.2.1 ≤ s.2.2.2)))
def Q4c (h : Host) : Bool := inN h.2 0 500000
def Q4d (n : Nat) (s : Sync) : Bool := inN s.1 0 ((n : Int) - 1) && Q3h s
def Q3i (n : Nat) (e : Q3l) : Bool := inN e.1 0 ((n : Int) - 1) && inN e.2.1 0 8589934592
def Q4z (n : Nat) (l : Link) : Bool := inN l.1 0 ((n : Int) - 1) && (inN l.2.1 0 ((n : Int) - 1) && (!decide (l.1 = l.2.1) && inN l.2.2 0 8589934592))
def Q3m (r : Rec) : Bool := !decide ((8 : Int) < r.1.length) && (!decide ((64 : Int) < r.2.1.length) && (!decide ((40 : Int) < r.2.2.1.length) && !decide ((64 : Int) < r.2.2.2.length)))
def Qq (r : Rec) : Bool := Q3m r && (r.1.all Q4c && (r.2.1.all (Q4d r.1.length) && (r.2.2.1.all (Q3i r.1.length) && r.2.2.2.all (Q4z r.2.2.1.length))))
def Q13 (drift d : Int) : Int × Int :=
 cond (inN drift 0 500000 && inN d 0 8589934592) (d * 1000000 / (1000000 + drift), (d * 1000000 + (1000000 - drift) - 1) / (1000000 - drift)) (0, 0)
def Q6o (h : Host) (s : Sync) (c : Int) : Int × Int :=
 cond (Q4c h && (Q3h s && inN c 0 8589934592))
  (cond (decide (s.2.1 ≤ c)) (s.2.2.1 + (Q13 h.2 (c - s.2.1)).1, s.2.2.2 + (Q13 h.2 (c - s.2.1)).2) (s.2.2.1 - (Q13 h.2 (s.2.1 - c)).2, s.2.2.2 - (Q13 h.2 (s.2.1 - c)).1))
  (-1099511627776, 1099511627776)
def Q5g (a b : Int × Int) : Int × Int := (if b.1 > a.1 then b.1 else a.1, if b.2 < a.2 then b.2 else a.2)
def Qik (r : Rec) (host c : Int) : Int × Int :=
 r.2.1.foldl (fun out s => cond (decide (s.1 = host)) (Q5g out (Q6o (r.1.getD host.toNat ([], 0)) s c)) out) (0, 8589934592)
def when? (r : Rec) (host c : Int) : (Int × Int) × Bool :=
 cond (Qq r && (inN host 0 ((r.1.length : Int) - 1) && inN c 0 8589934592)) (Qik r host c, !decide ((Qik r host c).2 < (Qik r host c).1)) ((0, 0), false)
section
variable {β : Type}
theorem Q1o (n lo hi : Int) (k : Bool → Option β) : zqin n lo hi k = k (inN n lo hi) := by
 simp only [zqin, Q0, zqim, inN, c_kb]
theorem Q19 (n : Int) (k : Bool → Option β) : zqir n k = k (inN n 0 8589934592) := by
 simp only [zqir, Q0, zqiq, Q1o]
theorem Q3b (s : Sync) (k : Bool → Option β) : zqvi s k = k (Q3h s) := by
 simp only [zqvi, Q0, zqvh, Q19, c_kb, Q3h]
theorem Qa1 (k1 : zq159 β) (k2 : zq15a β) {r : Rec} (h1 : r.1.length ≤ 1000000) (h2 : r.2.1.length ≤ 1000000) (h3 : r.2.2.1.length ≤ 1000000) (h4 : r.2.2.2.length ≤ 1000000) : zq15s k1 k2 r.1 r.1.length 0 r = cond (r.1.all Q4c) (k2 r) (k1 false) := by
 unfold zq15s
 rw [Q0]
 refine Qk (fun m i => zq15q m k1 k2 r.1 r.1.length i r) Q4c _ _ ([], 0) r.1 fuel (Q3 (by omega)) (fun m i hi => ?_) (fun m => ?_)
 ·simp (disch := omega) only [zq15r, zq15p, Q1o, Q8, Q6, Q32, i64_in, Int.toNat_natCast, Q4c]
 ·simp (disch := omega) only [zq15r, zq15p, Qa]
theorem Qa2 (k1 : zq15d β) (k2 : zq15e β) {r : Rec} (h1 : r.1.length ≤ 1000000) (h2 : r.2.1.length ≤ 1000000) (h3 : r.2.2.1.length ≤ 1000000) (h4 : r.2.2.2.length ≤ 1000000) : zq15x k1 k2 r.2.1 r.2.1.length 0 r = cond (r.2.1.all (Q4d r.1.length)) (k2 r) (k1 false) := by
 unfold zq15x
 rw [Q0]
 refine Qk (fun m i => zq15v m k1 k2 r.2.1 r.2.1.length i r) (Q4d r.1.length) _ _ (0, 0, 0, 0) r.2.1 fuel (Q3 (by omega)) (fun m i hi => ?_) (fun m => ?_)
 ·simp (disch := omega) only [zq15w, zq15u, Q1o, Q3b, Q8, Q6, Q32, i64_in, Int.toNat_natCast, Q4d, Q9r]
 ·simp (disch := omega) only [zq15w, zq15u, Qa]
theorem Qa3 (k1 : zq15h β) (k2 : zq15i β) {r : Rec} (h1 : r.1.length ≤ 1000000) (h2 : r.2.1.length ≤ 1000000) (h3 : r.2.2.1.length ≤ 1000000) (h4 : r.2.2.2.length ≤ 1000000) : zq162 k1 k2 r.2.2.1 r.2.2.1.length 0 r = cond (r.2.2.1.all (Q3i r.1.length)) (k2 r) (k1 false) := by
 unfold zq162
 rw [Q0]
 refine Qk (fun m i => zq160 m k1 k2 r.2.2.1 r.2.2.1.length i r) (Q3i r.1.length) _ _ (0, 0, []) r.2.2.1 fuel (Q3 (by omega)) (fun m i hi => ?_) (fun m => ?_)
 ·simp (disch := omega) only [zq161, zq15z, Q1o, Q19, Q8, Q6, Q32, i64_in, Int.toNat_natCast, Q3i, Q9r]
 ·simp (disch := omega) only [zq161, zq15z, Qa]
theorem Qa4 (k1 : zq15l β) (k2 : zq15m β) {r : Rec} (h1 : r.1.length ≤ 1000000) (h2 : r.2.1.length ≤ 1000000) (h3 : r.2.2.1.length ≤ 1000000) (h4 : r.2.2.2.length ≤ 1000000) : zq167 k1 k2 r.2.2.2 r.2.2.2.length 0 r = cond (r.2.2.2.all (Q4z r.2.2.1.length)) (k2 ()) (k1 false) := by
 unfold zq167
 rw [Q0]
 refine Qk (fun m i => zq165 m k1 k2 r.2.2.2 r.2.2.2.length i r) (Q4z r.2.2.1.length) _ _ (0, 0, 0) r.2.2.2 fuel (Q3 (by omega)) (fun m i hi => ?_) (fun m => ?_)
 ·simp (disch := omega) only [zq166, zq164, Q1o, Q19, Q8, Q6, Q32, i64_in, Int.toNat_natCast, Q4z, Qjf, Q9r, Bool.not_not]
 ·simp (disch := omega) only [zq166, zq164, Qa]
theorem Q7l (r : Rec) (k : Bool → Option β) : zq16a r k = k (Qq r) := by
 unfold zq16a
 rw [Q0]
 unfold zq169
 by_cases h1 : (8 : Int) < r.1.length
 ·simp [Qq, Q3m, h1]
 by_cases h2 : (64 : Int) < r.2.1.length
 ·simp [Qq, Q3m, h1, h2]
 by_cases h3 : (40 : Int) < r.2.2.1.length
 ·simp [Qq, Q3m, h1, h2, h3]
 by_cases h4 : (64 : Int) < r.2.2.2.length
 ·simp [Qq, Q3m, h1, h2, h3, h4]
 rw [decide_eq_false h1, decide_eq_false h2, decide_eq_false h3, decide_eq_false h4]
 have g1 : r.1.length ≤ 1000000 := by omega
 have g2 : r.2.1.length ≤ 1000000 := by omega
 have g3 : r.2.2.1.length ≤ 1000000 := by omega
 have g4 : r.2.2.2.length ≤ 1000000 := by omega
 simp only [c_f]
 rw [Qa1 _ _ g1 g2 g3 g4, Qa2 _ _ g1 g2 g3 g4, Qa3 _ _ g1 g2 g3 g4, Qa4 _ _ g1 g2 g3 g4]
 simp only [c_kb, c_k, Qq, Q3m, decide_eq_false h1, decide_eq_false h2, decide_eq_false h3, decide_eq_false h4, Bool.not_false, Bool.true_and]
 apply k_eq
 cases r.1.all Q4c <;> cases r.2.1.all (Q4d r.1.length) <;> cases r.2.2.1.all (Q3i r.1.length) <;> cases r.2.2.2.all (Q4z r.2.2.1.length) <;> rfl
theorem Q3t (drift d : Int) (k : Int → Int → Option β) : zqvm drift d k = k (Q13 drift d).1 (Q13 drift d).2 := by
 simp only [zqvm, Q0, zqvl, Q1o, Q19, Q13]
 cases h1 : inN drift 0 500000 with
 | false => rfl
 | true =>
  cases h2 : inN d 0 8589934592 with
  | false => rfl
  | true =>
   have h1 := Qy.1 h1
   have h2 := Qy.1 h2
   simp (disch := omega) only [zqjn, Q0, zqjm, Bool.not_true, c_f, Bool.and_true, cond_true, i64_in, i64_quo, Q1d]
theorem Qbv {drift d : Int} : 0 ≤ (Q13 drift d).1 ∧ (Q13 drift d).1 ≤ 8589934592 ∧ 0 ≤ (Q13 drift d).2 ∧ (Q13 drift d).2 ≤ 17179869184 := by
 unfold Q13
 cases h : inN drift 0 500000 && inN d 0 8589934592 with
 | false => simp
 | true =>
  simp only [cond_true]
  rw [Bool.and_eq_true, Qy, Qy] at h
  have hp1 : (0 : Int) < 1000000 + drift := by omega
  have hp2 : (0 : Int) < 1000000 - drift := by omega
  refine ⟨Int.ediv_nonneg (by omega) (by omega), ?_, Int.ediv_nonneg (by omega) (by omega), ?_⟩
  ·apply Int.le_of_lt_add_one
   rw [Int.ediv_lt_iff_lt_mul hp1]
   have : (8589934592 + 1) * 1000000 ≤ (8589934592 + 1) * (1000000 + drift) := Int.mul_le_mul_of_nonneg_left (by omega) (by omega)
   omega
  ·apply Int.le_of_lt_add_one
   rw [Int.ediv_lt_iff_lt_mul hp2]
   have : (17179869184 + 1) * 500000 ≤ (17179869184 + 1) * (1000000 - drift) := Int.mul_le_mul_of_nonneg_left (by omega) (by omega)
   omega
theorem Q8b (h : Host) (s : Sync) (c : Int) (k : Int × Int → Option β) : zq16p h s c k = k (Q6o h s c) := by
 simp only [zq16p, Q0, zq16o, Q1o, Q3b, Q19, Q3t, Q6o, Q4c]
 cases h1 : inN h.2 0 500000 with
 | false => rfl
 | true =>
  cases h2 : Q3h s with
  | false => rfl
  | true =>
   cases h3 : inN c 0 8589934592 with
   | false => rfl
   | true =>
    simp only [Q3h, Bool.and_eq_true, Qy, decide_eq_true_eq] at h2
    have h3 := Qy.1 h3
    simp only [Bool.not_true, c_f, Bool.and_true, cond_true]
    have e1 := @Qbv h.2 (c - s.2.1)
    have e2 := @Qbv h.2 (s.2.1 - c)
    by_cases h4 : s.2.1 ≤ c
    ·simp (disch := omega) only [Q8, i64_in, decide_eq_true h4, cond_true]
    ·simp (disch := omega) only [Qa, i64_in, decide_eq_false h4, cond_false]
theorem Qdx (a b : Int × Int) (k : Int × Int → Option β) : zqiv a b k = k (Q5g a b) := by simp only [zqiv, Q0, zqiu, Q5g]
theorem Qcl (a : Int × Int) (k : Bool → Option β) : zqiz a k = k (decide (a.2 < a.1)) := by simp only [zqiz, Q0, zqiy]
theorem Qas (k1 : zq19w β) (host c : Int) {r : Rec} (hh : 0 ≤ host ∧ host < r.1.length) (hx : r.2.1.length ≤ 1000000) (t o : Int × Int) :
  zq1a2 k1 host c r.2.1 r.2.1.length 0 r t o = k1 t (r.2.1.foldl (fun out s => cond (decide (s.1 = host)) (Q5g out (Q6o (r.1.getD host.toNat ([], 0)) s c)) out) o) := by
 unfold zq1a2
 rw [Q0]
 refine Q3z (σ := Int × Int) (fun m i o => zq1a0 m k1 host c r.2.1 r.2.1.length i r t o) (fun out s => cond (decide (s.1 = host)) (Q5g out (Q6o (r.1.getD host.toNat ([], 0)) s c)) out) (fun o => k1 t o) (0, 0, 0, 0) r.2.1 o fuel (Q3 (by omega)) (fun m i s hi => ?_) (fun m s => ?_)
 ·simp (disch := omega) only [zq1a1, zq19z, Q8b, Qdx, Q8, Q6, i64_in, Int.toNat_natCast]
  cases decide ((r.2.1.getD i (0, 0, 0, 0)).1 = host) <;> rfl
 ·simp (disch := omega) only [zq1a1, zq19z, Qa]
theorem Q1k {r : Rec} (h : Qq r = true) : r.1.length ≤ 8 ∧ r.2.1.length ≤ 64 ∧ r.2.2.1.length ≤ 40 ∧ r.2.2.2.length ≤ 64 := by
 simp [Qq, Q3m] at h
 omega
theorem Qdy (r : Rec) (host c : Int) (k : Int × Int → Bool → Option β) : zq1a5 r host c k = k (when? r host c).1 (when? r host c).2 := by
 simp only [zq1a5, Q0, zq1a4, Q7l, Q1o, Q19, Qcl, when?]
 cases h1 : Qq r with
 | false => rfl
 | true =>
  have hb := Q1k h1
  simp (disch := omega) only [i64_in, Bool.not_true, c_f, Bool.true_and]
  cases h2 : inN host 0 ((r.1.length : Int) - 1) with
  | false => rfl
  | true =>
   cases h3 : inN c 0 8589934592 with
   | false => rfl
   | true =>
    have h2 := Qy.1 h2
    simp only [Bool.not_true, c_f, Bool.and_true, cond_true]
    rw [Qas _ host c (by omega) (by omega)]
    rfl
theorem Qx (n lo hi : Int) (k : Bool → Option β) : zq56 n lo hi k = k (inN n lo hi) := by
 simp only [zq56, Q0, zq55, inN, c_kb]
theorem Qk8 (n : Nat) (e : Sync) : Q4d n e = (inN e.1 0 ((n : Int) - 1) && (inN e.2.1 0 8589934592 && (inN e.2.2.1 0 e.2.2.2 && !decide ((8589934592 : Int) < e.2.2.2)))) := by
 rw [Bool.eq_iff_iff]
 simp [Q4d, Q3h, inN]
 omega
theorem Qa5 (k1 : zqg6 β) (k2 : zqg7 β) {r : Rec} (h1 : r.1.length ≤ 1000000) (h2 : r.2.1.length ≤ 1000000) (h3 : r.2.2.1.length ≤ 1000000) (h4 : r.2.2.2.length ≤ 1000000) : zqgp k1 k2 0 r = cond (r.1.all Q4c) (k2 r) (k1 false) := by
 unfold zqgp
 rw [Q0]
 refine Qk (fun m i => zqgn m k1 k2 i r) Q4c _ _ ([], 0) r.1 fuel (Q3 (by omega)) (fun m i hi => ?_) (fun m => ?_)
 ·simp (disch := omega) only [zqgo, zqgm, Qx, Q8, Q6, Q32, i64_in, Int.toNat_natCast, Q4c]
 ·simp (disch := omega) only [zqgo, zqgm, Qa]
theorem Qa6 (k1 : zqga β) (k2 : zqgb β) {r : Rec} (h1 : r.1.length ≤ 1000000) (h2 : r.2.1.length ≤ 1000000) (h3 : r.2.2.1.length ≤ 1000000) (h4 : r.2.2.2.length ≤ 1000000) : zqgu k1 k2 0 r = cond (r.2.1.all (Q4d r.1.length)) (k2 r) (k1 false) := by
 unfold zqgu
 rw [Q0]
 refine Qk (fun m i => zqgs m k1 k2 i r) (Q4d r.1.length) _ _ (0, 0, 0, 0) r.2.1 fuel (Q3 (by omega)) (fun m i hi => ?_) (fun m => ?_)
 ·simp (disch := omega) only [zqgt, zqgr, Qx, Q8, Q6, Q32, i64_in, Int.toNat_natCast, Qk8, Qnu, Q9r]
 ·simp (disch := omega) only [zqgt, zqgr, Qa]
theorem Qa7 (k1 : zqge β) (k2 : zqgf β) {r : Rec} (h1 : r.1.length ≤ 1000000) (h2 : r.2.1.length ≤ 1000000) (h3 : r.2.2.1.length ≤ 1000000) (h4 : r.2.2.2.length ≤ 1000000) : zqgz k1 k2 0 r = cond (r.2.2.1.all (Q3i r.1.length)) (k2 r) (k1 false) := by
 unfold zqgz
 rw [Q0]
 refine Qk (fun m i => zqgx m k1 k2 i r) (Q3i r.1.length) _ _ (0, 0, []) r.2.2.1 fuel (Q3 (by omega)) (fun m i hi => ?_) (fun m => ?_)
 ·simp (disch := omega) only [zqgy, zqgw, Qx, Q8, Q6, Q32, i64_in, Int.toNat_natCast, Q3i, Q9r]
 ·simp (disch := omega) only [zqgy, zqgw, Qa]
theorem Qa8 (k1 : zqgi β) (k2 : zqgj β) {r : Rec} (h1 : r.1.length ≤ 1000000) (h2 : r.2.1.length ≤ 1000000) (h3 : r.2.2.1.length ≤ 1000000) (h4 : r.2.2.2.length ≤ 1000000) : zqh4 k1 k2 0 r = cond (r.2.2.2.all (Q4z r.2.2.1.length)) (k2 ()) (k1 false) := by
 unfold zqh4
 rw [Q0]
 refine Qk (fun m i => zqh2 m k1 k2 i r) (Q4z r.2.2.1.length) _ _ (0, 0, 0) r.2.2.2 fuel (Q3 (by omega)) (fun m i hi => ?_) (fun m => ?_)
 ·simp (disch := omega) only [zqh3, zqh1, Qx, Q8, Q6, Q32, i64_in, Int.toNat_natCast, Q4z, Qjf, Q9r, Bool.not_not]
 ·simp (disch := omega) only [zqh3, zqh1, Qa]
theorem Q7m (r : Rec) (k : Bool → Option β) : zqh7 r k = k (Qq r) := by
 unfold zqh7
 rw [Q0]
 unfold zqh6
 by_cases h1 : (8 : Int) < r.1.length
 ·simp [Qq, Q3m, h1]
 by_cases h2 : (64 : Int) < r.2.1.length
 ·simp [Qq, Q3m, h1, h2]
 by_cases h3 : (40 : Int) < r.2.2.1.length
 ·simp [Qq, Q3m, h1, h2, h3]
 by_cases h4 : (64 : Int) < r.2.2.2.length
 ·simp [Qq, Q3m, h1, h2, h3, h4]
 rw [decide_eq_false h1, decide_eq_false h2, decide_eq_false h3, decide_eq_false h4]
 have g1 : r.1.length ≤ 1000000 := by omega
 have g2 : r.2.1.length ≤ 1000000 := by omega
 have g3 : r.2.2.1.length ≤ 1000000 := by omega
 have g4 : r.2.2.2.length ≤ 1000000 := by omega
 simp only [c_f]
 rw [Qa5 _ _ g1 g2 g3 g4, Qa6 _ _ g1 g2 g3 g4, Qa7 _ _ g1 g2 g3 g4, Qa8 _ _ g1 g2 g3 g4]
 simp only [c_kb, c_k, Qq, Q3m, decide_eq_false h1, decide_eq_false h2, decide_eq_false h3, decide_eq_false h4, Bool.not_false, Bool.true_and]
 apply k_eq
 cases r.1.all Q4c <;> cases r.2.1.all (Q4d r.1.length) <;> cases r.2.2.1.all (Q3i r.1.length) <;> cases r.2.2.2.all (Q4z r.2.2.1.length) <;> rfl
theorem Q6d (drift d : Int) (k : Int → Int → Option β) : zqhb drift d k = k (Q13 drift d).1 (Q13 drift d).2 := by
 simp only [zqhb, Q0, zqha, Qx, Q13]
 cases h1 : inN drift 0 500000 with
 | false => rfl
 | true =>
  cases h2 : inN d 0 8589934592 with
  | false => rfl
  | true =>
   have h1 := Qy.1 h1
   have h2 := Qy.1 h2
   simp (disch := omega) only [Bool.not_true, c_f, Bool.and_true, cond_true, i64_in, i64_quo, Q1d]
   congr 2
   omega
theorem Qdz (h : Host) (s : Sync) (c : Int) (k : Int × Int → Option β) : zqjf h s c k = k (Q6o h s c) := by
 rw [← Q8b h s c k]
 simp only [zq16p, Q0, zq16o, Q1o, Q3b, Q19, Q3t, zqjf, Q0, zqje, Qx, Q6d]
 have : Q3h s = (inN s.2.1 0 8589934592 && (inN s.2.2.1 0 s.2.2.2 && !decide ((8589934592 : Int) < s.2.2.2))) := by
  rw [Bool.eq_iff_iff]; simp [Q3h, inN]; omega
 rw [this]
 cases inN h.2 0 500000 <;> cases inN s.2.1 0 8589934592 <;> cases inN s.2.2.1 0 s.2.2.2 <;> cases decide ((8589934592 : Int) < s.2.2.2) <;> rfl
theorem Qe0 (a b : Int × Int) (k : Int × Int → Option β) : zqjb a b k = k (Q5g a b) := by simp only [zqjb, Q0, zqja, Q5g]
theorem Qcm (a : Int × Int) (k : Bool → Option β) : zqjj a k = k (decide (a.2 < a.1)) := by simp only [zqjj, Q0, zqji]
theorem Qat (k1 : zqv5 β) (host c : Int) {r : Rec} (hh : 0 ≤ host ∧ host < r.1.length) (hx : r.2.1.length ≤ 1000000) (t o : Int × Int) :
  zqvb k1 host c 0 r t o = k1 t (r.2.1.foldl (fun out s => cond (decide (s.1 = host)) (Q5g out (Q6o (r.1.getD host.toNat ([], 0)) s c)) out) o) := by
 unfold zqvb
 rw [Q0]
 refine Q3z (σ := Int × Int) (fun m i o => zqv9 m k1 host c i r t o) (fun out s => cond (decide (s.1 = host)) (Q5g out (Q6o (r.1.getD host.toNat ([], 0)) s c)) out) (fun o => k1 t o) (0, 0, 0, 0) r.2.1 o fuel (Q3 (by omega)) (fun m i s hi => ?_) (fun m s => ?_)
 ·simp (disch := omega) only [zqva, zqv8, Qdz, Qe0, Q8, Q6, i64_in, Int.toNat_natCast]
  cases decide ((r.2.1.getD i (0, 0, 0, 0)).1 = host) <;> rfl
 ·simp (disch := omega) only [zqva, zqv8, Qa]
theorem Qe1 (r : Rec) (host c : Int) (k : Int × Int → Bool → Option β) : zqve r host c k = k (when? r host c).1 (when? r host c).2 := by
 simp only [zqve, Q0, zqvd, Q7m, Qx, Qcm, when?]
 cases h1 : Qq r with
 | false => rfl
 | true =>
  have hb := Q1k h1
  simp (disch := omega) only [i64_in, Bool.not_true, c_f, Bool.true_and]
  cases h2 : inN host 0 ((r.1.length : Int) - 1) with
  | false => rfl
  | true =>
   cases h3 : inN c 0 8589934592 with
   | false => rfl
   | true =>
    have h2 := Qy.1 h2
    simp only [Bool.not_true, c_f, Bool.and_true, cond_true]
    rw [Qat _ host c (by omega) (by omega)]
    rfl
end
end
end Go.Lift
namespace Go.Lift
open Go.RowKit Go.IntWalk
noncomputable section
set_option linter.unusedVariables false
set_option linter.unusedSimpArgs false
set_option maxRecDepth 10000
theorem Qbw {σ : Type} (g : σ → Nat → σ) (s : σ) (c : Nat) : (List.range (c + 1)).foldl g s = g ((List.range c).foldl g s) c := by
 rw [List.range_succ, List.foldl_append]; rfl
def Le (n : Nat) (m' m : Mat) : Prop := ∀ a b, a < n → b < n → at2 m' a b ≤ at2 m a b
theorem Le.refl {n : Nat} (m : Mat) : Le n m m := fun _ _ _ _ => Int.le_refl _
theorem Le.trans {n : Nat} {a b c : Mat} (h : Le n a b) (g : Le n b c) : Le n a c := fun i j hi hj => Int.le_trans (h i j hi hj) (g i j hi hj)
theorem Qft {n k i j : Nat} {m : Mat} (hm : Sq n m) (hi : i < n) (hj : j < n) : Le n (relaxW k i j m) m := by
 intro a b ha hb
 unfold relaxW
 split
 ·exact Int.le_refl _
 ·rw [Qar hm hi hj]
  split
  ·rename_i e
   rw [e.1, e.2]
   split <;> omega
  ·exact Int.le_refl _
theorem Qcn {n : Nat} (g : Mat → Nat → Mat) (h1 : ∀ m j, Sq n m → Sq n (g m j)) (h2 : ∀ m j, Sq n m → j < n → Le n (g m j) m) : ∀ (l : List Nat) (m : Mat), Sq n m → (∀ x ∈ l, x < n) → Le n (l.foldl g m) m
 | [], m, _, _ => Le.refl m
 | x :: l, m, hm, hl => (Qcn g h1 h2 l (g m x) (h1 m x hm) (fun y hy => hl y (List.mem_cons_of_mem _ hy))).trans (h2 m x hm (hl x (List.mem_cons_self ..)))
theorem Qoe {n k i : Nat} {m : Mat} (hm : Sq n m) (hi : i < n) : Le n (rowW n k i m) m :=
 Qcn _ (fun m j h => h.relaxW k i j) (fun m j h hj => Qft h hi hj) _ m hm (fun x hx => by simpa using hx)
theorem Qlr {n k : Nat} {m : Mat} (hm : Sq n m) : Le n (roundW n k m) m :=
 Qcn _ (fun m j h => h.rowW k j) (fun m j h hj => Qoe h hj) _ m hm (fun x hx => by simpa using hx)
theorem Qde {n : Nat} : ∀ (c k : Nat) (m m' : Mat), Sq n m → Q1e n c k m = some m' → Le n m' m
 | 0, k, m, m', h, e => by cases e; exact Le.refl m
 | c + 1, k, m, m', h, e => by
  unfold Q1e at e
  split at e
  ·cases e
  ·exact (Qde c (k + 1) _ m' (h.roundW k) e).trans (Qlr h)
theorem Qof {n : Nat} {m : Mat} (h : Sq n m) {d : Diff} (hd : Q1j n d = true) (a b : Nat) :
  at2 (putW m d) a b = if a = d.1.toNat ∧ b = d.2.1.toNat then min (at2 m a b) d.2.2 else at2 m a b := by
 have hd := of_decide_eq_true hd
 unfold putW
 rw [Qar h (by omega) (by omega)]
 split
 ·rename_i e
  rw [e.1, e.2]
  split <;> omega
 ·rfl
theorem Qog {n : Nat} {i j : Nat} (hi : i < n) (hj : j < n) : at2 (bigM n) i j = 1099511627776 := by
 unfold at2 bigM
 simp [List.getD, hi, hj]
theorem Q84 {n : Nat} : ∀ (l : List Diff), l.all (Q1j n) = true → ∀ (m : Mat), Sq n m → ∀ i j (v : Int), v ≤ at2 (l.foldl putW m) i j ↔ v ≤ at2 m i j ∧ ∀ d ∈ l, d.1.toNat = i → d.2.1.toNat = j → v ≤ d.2.2
 | [], _, m, hm, i, j, v => by simp
 | d :: l, ho, m, hm, i, j, v => by
  rw [List.all_cons, Bool.and_eq_true] at ho
  simp only [List.foldl_cons]
  rw [Q84 l ho.2 _ (hm.putW d) i j v, Qof hm ho.1]
  simp only [List.mem_cons, forall_eq_or_imp]
  by_cases e : i = d.1.toNat ∧ j = d.2.1.toNat
  ·rw [if_pos e]
   constructor
   ·intro h
    refine ⟨by omega, fun _ _ => by omega, h.2⟩
   ·intro h
    have := h.2.1 e.1.symm e.2.symm
    exact ⟨by omega, h.2.2⟩
  ·rw [if_neg e]
   constructor
   ·intro h
    exact ⟨h.1, fun a b => absurd ⟨a.symm, b.symm⟩ e, h.2⟩
   ·intro h
    exact ⟨h.1, h.2.2⟩
theorem Qni {n : Nat} {m : Mat} (hm : Sq n m) {i j : Nat} (hi : i < n) (hj : j < n) : at2 (diagW n m) i j = if i = j then min (at2 m i j) 0 else at2 m i j := by
 have key : ∀ c, c ≤ n → Sq n ((List.range c).foldl (fun m i => setAt m i i (if 0 < at2 m i i then 0 else at2 m i i)) m) ∧ ∀ a b, a < n → b < n →
   at2 ((List.range c).foldl (fun m i => setAt m i i (if 0 < at2 m i i then 0 else at2 m i i)) m) a b = if a = b ∧ a < c then min (at2 m a b) 0 else at2 m a b := by
  intro c
  induction c with
  | zero =>
   intro _
   refine ⟨hm, fun a b _ _ => ?_⟩
   rw [if_neg (by omega)]
   rfl
  | succ c ih =>
   intro hc
   obtain ⟨s1, s2⟩ := ih (by omega)
   rw [Qbw]
   refine ⟨s1.setAt _ _ _, fun a b ha hb => ?_⟩
   rw [Qar s1 (by omega) (by omega), s2 c c (by omega) (by omega), s2 a b ha hb, if_neg (show ¬ (c = c ∧ c < c) by omega)]
   by_cases e : a = c ∧ b = c
   ·rw [if_pos e, if_pos (show a = b ∧ a < c + 1 by omega), e.1, e.2]
    split <;> omega
   ·rw [if_neg e]
    by_cases e2 : a = b ∧ a < c
    ·rw [if_pos e2, if_pos (show a = b ∧ a < c + 1 by omega)]
    ·rw [if_neg e2, if_neg (show ¬ (a = b ∧ a < c + 1) by omega)]
 refine ((key n (Nat.le_refl n)).2 i j hi hj).trans ?_
 by_cases e : i = j
 ·rw [if_pos ⟨e, hi⟩, if_pos e]
 ·rw [if_neg (fun h => e h.1), if_neg e]
def Q98 (n : Nat) (l : List Diff) : Mat := diagW n (Q39 n l)
theorem Qdf {n : Nat} {l : List Diff} (ho : l.all (Q1j n) = true) {i j : Nat} (hi : i < n) (hj : j < n) (v : Int) :
  v ≤ at2 (Q98 n l) i j ↔ v ≤ 1099511627776 ∧ (∀ d ∈ l, d.1.toNat = i → d.2.1.toNat = j → v ≤ d.2.2) ∧ (i = j → v ≤ 0) := by
 unfold Q98
 rw [Qni (Q2d n l) hi hj]
 have g := Q84 l ho (bigM n) (Qck n) i j v
 rw [Qog hi hj] at g
 by_cases e : i = j
 ·rw [if_pos e]
  constructor
  ·intro h
   have := g.1 (by unfold Q39 at h; omega)
   exact ⟨this.1, this.2, fun _ => by omega⟩
  ·intro h
   have := g.2 ⟨h.1, h.2.1⟩
   have := h.2.2 e
   unfold Q39
   omega
 ·rw [if_neg e]
  constructor
  ·intro h
   have := g.1 h
   exact ⟨this.1, this.2, fun h => absurd h e⟩
  ·intro h
   exact g.2 ⟨h.1, h.2.1⟩
theorem Q5h {n : Nat} {m : Mat} : Q23 n m = true ↔ ∀ i, i < n → 0 ≤ at2 m i i := by
 unfold Q23
 rw [List.all_eq_true]
 constructor
 ·intro h i hi
  have := of_decide_eq_true (h i (by simpa using hi))
  omega
 ·intro h i hi
  have := h i (by simpa using hi)
  exact decide_eq_true (by omega)
theorem Q4e {α γ : Type} (f : α → List γ) : ∀ (l : List α) (s : List γ), l.foldl (fun s x => s ++ f x) s = s ++ l.flatMap f
 | [], s => by simp
 | x :: l, s => by
  simp only [List.foldl_cons, List.flatMap_cons]
  rw [Q4e f l, List.append_assoc]
theorem Qil {β α σ : Type} (I : Nat → σ → Prop) (F : Nat → Int → σ → Option β) (p : α → Bool) (g : σ → α → σ) (E : Option β) (K : σ → Option β) (d : α) (xs : List α) (s : σ) (n : Nat) (hn : xs.length < n) (h0 : I 0 s)
  (hI : ∀ (i : Nat) s, i < xs.length → I i s → p (xs.getD i d) = true → I (i + 1) (g s (xs.getD i d)))
  (h1 : ∀ (m i : Nat) s, i < xs.length → I i s → F (m + 1) (i : Int) s = cond (p (xs.getD i d)) (F m ((i : Int) + 1) (g s (xs.getD i d))) E)
  (h2 : ∀ (m : Nat) s, I xs.length s → F (m + 1) (xs.length : Int) s = K s) : F n 0 s = cond (xs.all p) (K (xs.foldl g s)) E := by
 have key : ∀ (r : List α) (j fuel : Nat) (s : σ), xs.drop j = r → j + r.length = xs.length → r.length < fuel → I j s → F fuel (j : Int) s = cond (r.all p) (K (r.foldl g s)) E := by
  intro r
  induction r with
  | nil =>
   intro j fuel s hd hj hf hs
   obtain ⟨m, rfl⟩ : ∃ m, fuel = m + 1 := ⟨fuel - 1, by omega⟩
   simp only [List.length_nil, Nat.add_zero] at hj
   subst hj
   exact h2 m s hs
  | cons x r ih =>
   intro j fuel s hd hj hf hs
   obtain ⟨m, rfl⟩ : ∃ m, fuel = m + 1 := ⟨fuel - 1, by omega⟩
   simp only [List.length_cons] at hj hf
   have h3 : j < xs.length := by omega
   have hx : xs.getD j d = x := by
    rw [List.drop_eq_getElem_cons h3] at hd
    injection hd with hd1 hd2
    simp [List.getD, h3, hd1]
   have hr : xs.drop (j + 1) = r := by
    rw [List.drop_eq_getElem_cons h3] at hd
    injection hd with hd1 hd2
   rw [h1 m j s h3 hs, hx]
   have := hI j s h3 hs
   rw [hx] at this
   simp only [List.all_cons, List.foldl_cons]
   cases hp : p x with
   | true => simpa using ih (j + 1) m (g s x) hr (by omega) (by omega) (this hp)
   | false => rfl
 exact key xs 0 n s rfl (by simp) hn h0
theorem Q50 {β σ : Type} (n : Nat) (I : Nat → σ → Prop) (F : Nat → Int → σ → Option β) (p : Nat → Bool) (g : σ → Nat → σ) (E : Option β) (K : σ → Option β) (s : σ) (N : Nat) (hn : n < N) (h0 : I 0 s)
  (hI : ∀ (i : Nat) s, i < n → I i s → p i = true → I (i + 1) (g s i))
  (h1 : ∀ (m i : Nat) s, i < n → I i s → F (m + 1) (i : Int) s = cond (p i) (F m ((i : Int) + 1) (g s i)) E)
  (h2 : ∀ (m : Nat) s, I n s → F (m + 1) (n : Int) s = K s) : F N 0 s = cond ((List.range n).all p) (K ((List.range n).foldl g s)) E := by
 have hl : (List.range n).length = n := List.length_range
 refine Qil I F p g E K 0 (List.range n) s N (by omega) h0 (fun i s hi hs => ?_) (fun m i s hi hs => ?_) (fun m s hs => ?_)
 ·rw [Q2c (by omega)]
  exact hI i s (by omega) hs
 ·rw [Q2c (by omega)]
  exact h1 m i s (by omega) hs
 ·rw [hl] at hs ⊢
  exact h2 m s hs
theorem Q2z {β σ : Type} (n : Nat) (I : Nat → σ → Prop) (F : Nat → Int → σ → Option β) (g : σ → Nat → σ) (K : σ → Option β) (s : σ) (N : Nat) (hn : n < N) (h0 : I 0 s)
  (hI : ∀ (i : Nat) s, i < n → I i s → I (i + 1) (g s i))
  (h1 : ∀ (m i : Nat) s, i < n → I i s → F (m + 1) (i : Int) s = F m ((i : Int) + 1) (g s i))
  (h2 : ∀ (m : Nat) s, I n s → F (m + 1) (n : Int) s = K s) : F N 0 s = K ((List.range n).foldl g s) := by
 have h := Q50 n I F (fun _ => true) g none K s N hn h0 (fun i s hi hs _ => hI i s hi hs) h1 h2
 rw [h]
 have : (List.range n).all (fun _ => true) = true := by simp
 rw [this]
 rfl
def Q2e (n : Nat) : Nat → Nat → Mat → Option Mat
 | 0, _, m => some m
 | c + 1, k, m => if Q23 n (roundW n k m) then Q2e n c (k + 1) (roundW n k m) else none
theorem Qfu {n : Nat} : ∀ (c k : Nat) (m : Mat), Sq n m → k + (c + 1) = n → Q2e n (c + 1) k m = (match Q1e n (c + 1) k m with | some m' => if Q23 n m' then some m' else none | none => none) := by
 intro c
 induction c with
 | zero =>
  intro k m hm hk
  have h1 := hm.roundW k
  unfold Q2e Q1e
  cases hd : Q23 n (roundW n k m) with
  | true =>
   have := Q5h.1 hd k (by omega)
   rw [if_neg (show ¬ at2 (roundW n k m) k k < 0 by omega)]
   simp [Q2e, Q1e, hd]
  | false =>
   simp only [Bool.false_eq_true, if_false]
   by_cases hk0 : at2 (roundW n k m) k k < 0
   ·rw [if_pos hk0]
   ·rw [if_neg hk0]
    simp [Q1e, hd]
 | succ c ih =>
  intro k m hm hk
  have h1 := hm.roundW k
  have e : Q1e n (c + 1 + 1) k m = if at2 (roundW n k m) k k < 0 then none else Q1e n (c + 1) (k + 1) (roundW n k m) := rfl
  have e' : Q2e n (c + 1 + 1) k m = if Q23 n (roundW n k m) then Q2e n (c + 1) (k + 1) (roundW n k m) else none := rfl
  rw [e, e']
  cases hd : Q23 n (roundW n k m) with
  | true =>
   have := Q5h.1 hd k (by omega)
   rw [if_neg (show ¬ at2 (roundW n k m) k k < 0 by omega), if_pos rfl]
   exact ih (k + 1) _ h1 (by omega)
  | false =>
   rw [if_neg (by simp)]
   split
   ·rename_i m' heq
    split at heq
    ·cases heq
    ·have hle := Qde (c + 1) (k + 1) _ m' h1 heq
     have hd' : Q23 n m' = false := by
      cases hx : Q23 n m' with
      | false => rfl
      | true =>
       have : Q23 n (roundW n k m) = true := Q5h.2 (fun i hi => by
        have := Q5h.1 hx i hi
        have := hle i i hi hi
        omega)
       rw [hd] at this
       cases this
     rw [hd']
     rfl
   ·rfl
def Q5i (n : Nat) : Mat := (List.range n).map fun i => (List.replicate n BIG).set i 0
theorem Qau (n : Nat) : Sq n (Q5i n) := by
 refine ⟨by simp [Q5i], fun i hi => ?_⟩
 simp [Q5i, List.getD, hi]
theorem Qls {n i j : Nat} (hi : i < n) (hj : j < n) : at2 (Q5i n) i j = if i = j then 0 else 1099511627776 := by
 unfold at2 Q5i
 have : ((List.range n).map fun i => (List.replicate n BIG).set i 0).getD i [] = (List.replicate n BIG).set i 0 := by simp [List.getD, hi]
 rw [this]
 by_cases h : i = j
 ·rw [if_pos h, ← h, Q1z (by simp; exact hi)]
 ·rw [if_neg h, Q4y h]
  simp [List.getD, hj]
def Qbx (l : List Diff) : Prop := ∀ d ∈ l, d.1.toNat ≠ d.2.1.toNat
theorem Qgt {n : Nat} (l : List Diff) {m : Mat} (hm : Sq n m) : Sq n (l.foldl putW m) := Q4o (Sq n) _ (fun m d h => h.putW d) _ _ hm
theorem Qim {n : Nat} {l : List Diff} (ho : l.all (Q1j n) = true) (hs : Qbx l) : l.foldl putW (Q5i n) = Q98 n l := by
 refine Qnh (Qgt l (Qau n)) (Q2d n l).diagW (fun i j hi hj => ?_)
 have g1 := Q84 l ho (Q5i n) (Qau n) i j
 have g2 := Qdf ho hi hj
 have key : ∀ v, v ≤ at2 (l.foldl putW (Q5i n)) i j ↔ v ≤ at2 (Q98 n l) i j := by
  intro v
  rw [g1 v, g2 v, Qls hi hj]
  by_cases h : i = j
  ·rw [if_pos h]
   constructor
   ·intro hv
    exact ⟨by omega, hv.2, fun _ => hv.1⟩
   ·intro hv
    exact ⟨hv.2.2 h, hv.2.1⟩
  ·rw [if_neg h]
   constructor
   ·intro hv
    exact ⟨hv.1, hv.2, fun e => absurd e h⟩
   ·intro hv
    exact ⟨hv.1, hv.2.1⟩
 exact Int.le_antisymm ((key _).1 (Int.le_refl _)) ((key _).2 (Int.le_refl _))
def Cap (n : Nat) (m : Mat) : Prop := ∀ i j, i < n → j < n → at2 m i j ≤ 1099511627776
theorem Cap.le {n : Nat} {m m' : Mat} (h : Cap n m) (hl : Le n m' m) : Cap n m' := fun i j hi hj => Int.le_trans (hl i j hi hj) (h i j hi hj)
theorem Cap.relax {n : Nat} {m : Mat} (h : Cap n m) (hm : Sq n m) {k i j : Nat} (hi : i < n) (hj : j < n) : Cap n (relaxW k i j m) := h.le (Qft hm hi hj)
theorem Qk9 {n : Nat} {l : List Diff} (ho : l.all (Q1j n) = true) : Cap n (Q98 n l) := fun i j hi hj => ((Qdf ho hi hj _).1 (Int.le_refl _)).1
section
variable {β : Type}
theorem Qco {n : Nat} (h1 : 1 ≤ n) (hn : n ≤ 41) {l : List Diff} (k : Bool → Option β) : zqhp (n : Int) l k = k (Q4b n l) := by
 unfold zqhp
 rw [Q0]
 unfold zqho
 refine (Qx _ _ _ _).trans ?_
 rw [Qbu (by omega)]
 refine c_nt.trans ?_
 unfold Q4b
 by_cases hl : l.length ≤ 4000
 ·refine (Qa (by omega)).trans ?_
  rw [decide_eq_true hl, Bool.true_and]
  unfold zqhm
  rw [Q0]
  refine (Qk (fun f j => zqhk f (fun t => k t) (fun _ => k true) (n : Int) l j) (Q1j n) (k false) (k true) ((0 : Int), ((0 : Int), (0 : Int))) l fuel (Q3 (by omega)) (fun f j hj => ?_) (fun f => ?_)).trans ?_
  ·have e1 : IntKind.i64.wrap ((j : Int) + 1) = j + 1 := i64_in _ (by omega)
   have e2 : IntKind.i64.wrap ((n : Int) - 1) = n - 1 := i64_in _ (by omega)
   rw [zqhl]
   unfold zqhj
   simp only [Int.toNat_natCast, e1, e2]
   refine (Q8 (by omega)).trans ?_
   refine (Q6 (by omega)).trans ?_
   generalize l.getD j ((0 : Int), ((0 : Int), (0 : Int))) = d
   refine (Qx _ _ _ _).trans ?_
   unfold Q1j
   by_cases a1 : 0 ≤ d.1 ∧ d.1 ≤ (n : Int) - 1
   ·rw [Qbu a1]
    refine c_nt.trans ?_
    refine (Q6 (by omega)).trans ?_
    refine (Qx _ _ _ _).trans ?_
    by_cases a2 : 0 ≤ d.2.1 ∧ d.2.1 ≤ (n : Int) - 1
    ·rw [Qbu a2]
     refine c_nt.trans ?_
     refine (Q6 (by omega)).trans ?_
     refine (Qx _ _ _ _).trans ?_
     by_cases a3 : -17179869184 ≤ d.2.2 ∧ d.2.2 ≤ 17179869184
     ·rw [Qbu a3, decide_eq_true (show (0 ≤ d.1 ∧ d.1 < (n : Int) ∧ 0 ≤ d.2.1 ∧ d.2.1 < (n : Int) ∧ -17179869184 ≤ d.2.2 ∧ d.2.2 ≤ 17179869184) by omega)]
      rfl
     ·have : inN d.2.2 (-17179869184) 17179869184 = false := Bool.eq_false_iff.2 (fun h => a3 (Qy.1 h))
      rw [this, decide_eq_false (show ¬ (0 ≤ d.1 ∧ d.1 < (n : Int) ∧ 0 ≤ d.2.1 ∧ d.2.1 < (n : Int) ∧ -17179869184 ≤ d.2.2 ∧ d.2.2 ≤ 17179869184) by omega)]
      rfl
    ·have : inN d.2.1 0 ((n : Int) - 1) = false := Bool.eq_false_iff.2 (fun h => a2 (Qy.1 h))
     rw [this, decide_eq_false (show ¬ (0 ≤ d.1 ∧ d.1 < (n : Int) ∧ 0 ≤ d.2.1 ∧ d.2.1 < (n : Int) ∧ -17179869184 ≤ d.2.2 ∧ d.2.2 ≤ 17179869184) by omega)]
     rfl
   ·have : inN d.1 0 ((n : Int) - 1) = false := Bool.eq_false_iff.2 (fun h => a1 (Qy.1 h))
    rw [this, decide_eq_false (show ¬ (0 ≤ d.1 ∧ d.1 < (n : Int) ∧ 0 ≤ d.2.1 ∧ d.2.1 < (n : Int) ∧ -17179869184 ≤ d.2.2 ∧ d.2.2 ≤ 17179869184) by omega)]
    rfl
  ·rw [zqhl]
   unfold zqhj
   exact Qa (by omega)
  ·cases l.all (Q1j n) <;> rfl
 ·refine (Q8 (by omega)).trans ?_
  rw [decide_eq_false hl]
  rfl
theorem Qka {n : Nat} (hn : n ≤ 100) (k1 : zqti β) (l : List Diff) (i : Int) (d : Mat) :
  zqu1 k1 (n : Int) l i 0 d [] = k1 (n : Int) l i d (List.replicate n BIG) := by
 have key := Q2z n (fun i (s : List Int) => s.length = i) (fun f j s => zqtz f k1 (n : Int) l i j d s) (fun s _ => s ++ [BIG]) (fun s => k1 (n : Int) l i d s) [] fuel (Q3 (by omega)) rfl
  (fun i s hi hs => by simp [hs])
  (fun f j s hj hs => by
   have e1 : IntKind.i64.wrap ((j : Int) + 1) = j + 1 := i64_in _ (by omega)
   rw [zqu0]
   unfold zqty
   simp only [e1]
   refine (Q8 (by omega)).trans ?_
   exact Q1c (by simp only [List.length_cons, List.length_nil]; omega))
  (fun f s hs => by
   rw [zqu0]
   unfold zqty
   exact Qa (by omega))
 unfold zqu1
 rw [Q0]
 rw [key]
 congr 1
 have : ∀ c, (List.range c).foldl (fun (s : List Int) _ => s ++ [BIG]) [] = List.replicate c BIG := by
  intro c
  induction c with
  | zero => rfl
  | succ c ih => rw [Qbw, ih, List.replicate_succ']
 exact this n
theorem Qkb {n : Nat} (hn : n ≤ 100) (k1 : zqt7 β) (l : List Diff) :
  zqu6 k1 (n : Int) l 0 [] = k1 (n : Int) l (Q5i n) := by
 have key := Q2z n (fun i (s : Mat) => s.length = i) (fun f j s => zqu4 f k1 (n : Int) l j s) (fun s i => s ++ [(List.replicate n BIG).set i 0]) (fun s => k1 (n : Int) l s) [] fuel (Q3 (by omega)) rfl
  (fun i s hi hs => by simp [hs])
  (fun f j s hj hs => by
   have e1 : IntKind.i64.wrap ((j : Int) + 1) = j + 1 := i64_in _ (by omega)
   rw [zqu5]
   unfold zqu3
   refine (Q8 (by omega)).trans ?_
   refine (Qka hn _ _ _ _).trans ?_
   simp only [Int.toNat_natCast, e1]
   refine (Q6 (by simp; omega)).trans ?_
   exact Q1c (by simp only [List.length_cons, List.length_nil]; omega))
  (fun f s hs => by
   rw [zqu5]
   unfold zqu3
   exact Qa (by omega))
 unfold zqu6
 rw [Q0]
 rw [key]
 congr 1
 have : ∀ (l : List Nat) (s : Mat), l.foldl (fun (s : Mat) i => s ++ [(List.replicate n BIG).set i 0]) s = s ++ l.map fun i => (List.replicate n BIG).set i 0 := by
  intro l
  induction l with
  | nil => intro s; simp
  | cons x l ih => intro s; simp only [List.foldl_cons, List.map_cons]; rw [ih, List.append_assoc]; rfl
 rw [this]
 rfl
theorem Qkc {n : Nat} (hn : n ≤ 100) (k1 : zqta β) (k2 : zqtb β) {l : List Diff} (hl : l.length ≤ 4000) (ho : l.all (Q1j n) = true) (hs : Qbx l) {m : Mat} (hm : Sq n m) :
  zqub k1 k2 (n : Int) l 0 m = k2 (n : Int) (l.foldl putW m) := by
 have key := Q1i (fun _ (m : Mat) => Sq n m) (fun f j m => zqu9 f k1 k2 (n : Int) l j m) putW (fun m => k2 (n : Int) m) ((0 : Int), ((0 : Int), (0 : Int))) l m fuel (Q3 (by omega)) hm
  (fun j m hj hm => hm.putW _)
  (fun f j m hj hm => by
   have e1 : IntKind.i64.wrap ((j : Int) + 1) = j + 1 := i64_in _ (by omega)
   have hmem := Q82 (d := ((0 : Int), ((0 : Int), (0 : Int)))) hj
   have hd := of_decide_eq_true (List.all_eq_true.1 ho _ hmem)
   have hns := hs _ hmem
   have l0 := hm.len
   have l1 := hm.row (l.getD j ((0 : Int), ((0 : Int), (0 : Int)))).1.toNat (by omega)
   rw [zqua]
   unfold zqu8
   simp only [Int.toNat_natCast, e1]
   refine (Q8 (by omega)).trans ?_
   refine (Q6 (by omega)).trans ?_
   refine (Q6 (by omega)).trans ?_
   refine (Q6 (by omega)).trans ?_
   refine (Q6 (by omega)).trans ?_
   refine (Q6 (by omega)).trans ?_
   refine (Q6 (by omega)).trans ?_
   refine (Q6 (by omega)).trans ?_
   refine (Q6 (by omega)).trans ?_
   refine (Q6 (by omega)).trans ?_
   refine (Q6 (by omega)).trans ?_
   refine (Q6 (by omega)).trans ?_
   refine (Qa (by omega)).trans ?_
   rfl)
  (fun f m hm => by
   rw [zqua]
   unfold zqu8
   exact Qa (by omega))
 unfold zqub
 rw [Q0]
 exact key
theorem Qkd {n : Nat} (hn : n ≤ 100) {k i : Nat} (hk : k < n) (hi : i < n) {m : Mat} (hm : Sq n m) (hc : Cap n m) (k1 : zqts β) :
  zquj k1 (n : Int) (k : Int) (i : Int) 0 m = k1 (n : Int) (k : Int) (i : Int) (rowW n k i m) := by
 have key := Q2z n (fun _ (m : Mat) => Sq n m ∧ Cap n m) (fun f j m => zquh f k1 (n : Int) (k : Int) (i : Int) j m) (fun m j => relaxW k i j m) (fun m => k1 (n : Int) (k : Int) (i : Int) m) m fuel (Q3 (by omega)) ⟨hm, hc⟩
  (fun j m hj hm => ⟨hm.1.relaxW _ _ _, hm.2.relax hm.1 hi hj⟩)
  (fun f j m hj hm => by
   have e1 : IntKind.i64.wrap ((j : Int) + 1) = j + 1 := i64_in _ (by omega)
   have l0 := hm.1.len
   have l1 := hm.1.row i hi
   have l2 := hm.1.row k hk
   have c1 := hm.2 i k hi hk
   have c2 := hm.2 k j hk hj
   rw [zqui]
   unfold zqug
   simp only [Int.toNat_natCast]
   refine (Q8 (by omega)).trans ?_
   refine (Q6 (by omega)).trans ?_
   refine (Q6 (by omega)).trans ?_
   have hq : ∀ (t : Bool), (zque (fun (n2 : Int) (k_2 : Int) (i_2 : Int) (j2 : Int) (d2 : Mat) => zquh f k1 n2 k_2 i_2 (IntKind.i64.wrap (j2 + (1 : Int))) d2) (n : Int) (k : Int) (i : Int) (j : Int) t m : Option β) =
     zquh f k1 (n : Int) (k : Int) (i : Int) ((j : Int) + 1) (if t then setAt m i j (if IntKind.i64.wrap (at2 m i k + at2 m k j) < at2 m i j then IntKind.i64.wrap (at2 m i k + at2 m k j) else at2 m i j) else m) := fun t => by
    unfold zque
    rw [Q0]
    unfold zqud
    cases t with
    | false =>
     simp only [cond_false, e1]
     rfl
    | true =>
     simp only [cond_true, Int.toNat_natCast, e1]
     refine (Q6 (by omega)).trans ?_
     refine (Q6 (by omega)).trans ?_
     refine (Q6 (by omega)).trans ?_
     refine (Q6 (by omega)).trans ?_
     refine (Q6 (by omega)).trans ?_
     refine (Q6 (by omega)).trans ?_
     refine (Q6 (by omega)).trans ?_
     refine (Q6 (by omega)).trans ?_
     rfl
   by_cases h1 : at2 m i k = BIG
   ·refine (Qa (p := (m.getD i []).getD k 0 < (1099511627776 : Int)) (show ¬ at2 m i k < 1099511627776 by rw [h1]; decide)).trans ?_
    refine (hq false).trans ?_
    have : relaxW k i j m = m := by unfold relaxW; rw [if_pos (.inl h1)]
    rw [this]
    rfl
   ·have h1' : at2 m i k < 1099511627776 := by
     have : at2 m i k ≠ 1099511627776 := h1
     omega
    refine (Q8 (p := (m.getD i []).getD k 0 < (1099511627776 : Int)) h1').trans ?_
    refine (Q6 (by omega)).trans ?_
    refine (Q6 (by omega)).trans ?_
    refine (hq _).trans ?_
    by_cases h2 : at2 m k j = BIG
    ·have : relaxW k i j m = m := by unfold relaxW; rw [if_pos (.inr h2)]
     rw [this, decide_eq_false (show ¬ (m.getD k []).getD j 0 < (1099511627776 : Int) from by
      have h3 : (m.getD k []).getD j 0 = 1099511627776 := h2
      omega)]
     rfl
    ·have h2' : at2 m k j < 1099511627776 := by
      have : at2 m k j ≠ 1099511627776 := h2
      omega
     have : relaxW k i j m = setAt m i j (if IntKind.i64.wrap (at2 m i k + at2 m k j) < at2 m i j then IntKind.i64.wrap (at2 m i k + at2 m k j) else at2 m i j) := by unfold relaxW; rw [if_neg (fun h => h.elim h1 h2)]
     rw [this, decide_eq_true (show (m.getD k []).getD j 0 < (1099511627776 : Int) from h2')]
     rfl)
  (fun f m hm => by
   rw [zqui]
   unfold zqug
   exact Qa (by omega))
 unfold zquj
 rw [Q0]
 exact key
theorem Qfv {n k i : Nat} {m : Mat} (hm : Sq n m) (hc : Cap n m) (hi : i < n) : Cap n (rowW n k i m) := by
 unfold rowW
 have key : ∀ (l : List Nat) (m : Mat), (∀ j ∈ l, j < n) → Sq n m → Cap n m → Cap n (l.foldl (fun m j => relaxW k i j m) m) := by
  intro l
  induction l with
  | nil => intro m _ _ hc; exact hc
  | cons x l ih => intro m hl hm hc; exact ih _ (fun j hj => hl j (by simp [hj])) (hm.relaxW _ _ _) (hc.relax hm hi (hl x (by simp)))
 exact key _ _ (fun j hj => List.mem_range.1 hj) hm hc
theorem Qke {n : Nat} (hn : n ≤ 100) {k : Nat} (hk : k < n) {m : Mat} (hm : Sq n m) (hc : Cap n m) (k1 : zqtl β) :
  zquo k1 (n : Int) (k : Int) 0 m = k1 (n : Int) (k : Int) (roundW n k m) := by
 have key := Q2z n (fun _ (m : Mat) => Sq n m ∧ Cap n m) (fun f j m => zqum f k1 (n : Int) (k : Int) j m) (fun m i => rowW n k i m) (fun m => k1 (n : Int) (k : Int) m) m fuel (Q3 (by omega)) ⟨hm, hc⟩
  (fun j m hj hm => ⟨hm.1.rowW _ _, Qfv hm.1 hm.2 hj⟩)
  (fun f j m hj hm => by
   have e1 : IntKind.i64.wrap ((j : Int) + 1) = j + 1 := i64_in _ (by omega)
   rw [zqun]
   unfold zqul
   refine (Q8 (by omega)).trans ?_
   refine (Qkd hn hk hj hm.1 hm.2 _).trans ?_
   simp only [e1])
  (fun f m hm => by
   rw [zqun]
   unfold zqul
   exact Qa (by omega))
 unfold zquo
 rw [Q0]
 exact key
theorem Qin {n k : Nat} {m : Mat} (hm : Sq n m) (hc : Cap n m) : Cap n (roundW n k m) := by
 unfold roundW
 have key : ∀ (l : List Nat) (m : Mat), (∀ j ∈ l, j < n) → Sq n m → Cap n m → Cap n (l.foldl (fun m i => rowW n k i m) m) := by
  intro l
  induction l with
  | nil => intro m _ _ hc; exact hc
  | cons x l ih => intro m hl hm hc; exact ih _ (fun j hj => hl j (by simp [hj])) (hm.rowW _ _) (Qfv hm hc (hl x (by simp)))
 exact key _ _ (fun j hj => List.mem_range.1 hj) hm hc
theorem Qkf {n : Nat} (hn : n ≤ 100) (k1 : zqto β) (k2 : zqtp β) (k : Int) {m : Mat} (hm : Sq n m) :
  zqut k1 k2 (n : Int) k 0 m = cond (Q23 n m) (k2 (n : Int) k m) (k1 false []) := by
 have key := Q50 (σ := Unit) n (fun _ _ => True) (fun f j _ => zqur f k1 k2 (n : Int) k j m) (fun i => decide (¬ at2 m i i < 0)) (fun s _ => s) (k1 false []) (fun _ => k2 (n : Int) k m) () fuel (Q3 (by omega)) trivial (fun _ _ _ _ _ => trivial)
  (fun f j _ hj _ => by
   have e1 : IntKind.i64.wrap ((j : Int) + 1) = j + 1 := i64_in _ (by omega)
   have l0 := hm.len
   have l1 := hm.row j hj
   rw [zqus]
   unfold zquq
   simp only [Int.toNat_natCast, e1]
   refine (Q8 (by omega)).trans ?_
   refine (Q6 (by omega)).trans ?_
   refine (Q6 (by omega)).trans ?_
   by_cases h2 : at2 m j j < 0
   ·refine (Q8 h2).trans ?_
    simp [h2]
   ·refine (Qa h2).trans ?_
    simp [h2])
  (fun f _ _ => by
   rw [zqus]
   unfold zquq
   exact Qa (by omega))
 unfold zqut
 rw [Q0]
 exact key
theorem Qdg {n : Nat} (hn : n ≤ 100) (k1 : zqte β) (k2 : zqtf β) : ∀ (c k f : Nat) (m : Mat), k + c = n → c < f → Sq n m → Cap n m →
  zquw f k1 k2 (n : Int) (k : Int) m = (match Q2e n c k m with | some m' => k2 m' | none => k1 false [])
 | 0, k, f + 1, m, h, hf, hm, hc => by
  rw [zqux]
  unfold zquv
  exact Qa (by omega)
 | c + 1, k, f + 1, m, h, hf, hm, hc => by
  have hk : k < n := by omega
  have e1 : IntKind.i64.wrap ((k : Int) + 1) = ((k + 1 : Nat) : Int) := i64_in _ (by omega)
  rw [zqux]
  unfold zquv
  refine (Q8 (by omega)).trans ?_
  refine (Qke hn hk hm hc _).trans ?_
  refine (Qkf hn _ _ _ (hm.roundW k)).trans ?_
  unfold Q2e
  cases hd : Q23 n (roundW n k m) with
  | false => rfl
  | true =>
   simp only [if_true, e1]
   refine c_t.trans ?_
   exact Qdg hn k1 k2 c (k + 1) f _ (by omega) (by omega) (hm.roundW k) (Qin hm hc)
 | _, _, 0, _, _, hf, _, _ => absurd hf (by omega)
theorem Qcp {n : Nat} (h1 : 1 ≤ n) (hn : n ≤ 41) {l : List Diff} (hs : Qbx l) (k : Mat → Bool → Option β) : zqv1 (n : Int) l k = (match Q7k n l with | some m => k m true | none => k [] false) := by
 unfold zqv1
 rw [Q0]
 unfold zqv0
 refine (Qco h1 hn _).trans ?_
 unfold Q7k
 by_cases hv : Q4b n l = true
 ·rw [hv]
  have hv' := hv
  unfold Q4b at hv'
  rw [Bool.and_eq_true] at hv'
  refine c_nt.trans ?_
  rw [if_pos rfl]
  refine (Qkb (by omega) _ _).trans ?_
  refine (Qkc (by omega) _ _ (of_decide_eq_true hv'.1) hv'.2 hs (Qau n)).trans ?_
  rw [Qim hv'.2 hs]
  unfold zquy
  rw [Q0]
  refine (Qdg (by omega) _ _ n 0 fuel _ (by omega) (Q3 (by omega)) (Q2d n l).diagW (Qk9 hv'.2)).trans ?_
  obtain ⟨c, rfl⟩ : ∃ c, n = c + 1 := ⟨n - 1, by omega⟩
  have e := Qfu c 0 _ (Q2d (c + 1) l).diagW (by omega)
  revert e
  generalize Q2e (c + 1) (c + 1) 0 (diagW (c + 1) (Q39 (c + 1) l)) = R
  intro e
  subst e
  cases Q1e (c + 1) (c + 1) 0 (diagW (c + 1) (Q39 (c + 1) l)) with
  | none => exact rfl
  | some m => exact rfl
 ·rw [Bool.eq_false_iff.2 hv]
  refine c_nf.trans ?_
  rw [if_neg (by simp)]
end
end
end Go.Lift
namespace Go.Lift
open Go.RowKit Go.IntWalk
noncomputable section
set_option linter.unusedVariables false
set_option linter.unusedSimpArgs false
set_option maxRecDepth 10000
def evAt (r : Rec) (i : Nat) : Q3l := r.2.2.1.getD i (0, 0, [])
def Q4f (r : Rec) (i : Nat) : (Int × Int) × Bool := when? r (evAt r i).1 (evAt r i).2.1
def Q9w (r : Rec) (h : Int) : Int := (r.1.getD h.toNat ([], 0)).2
def evD (r : Rec) (i : Nat) : List Diff := [(0, ((i : Int) + 1, (Q4f r i).1.2)), ((i : Int) + 1, (0, IntKind.i64.wrap (0 - (Q4f r i).1.1)))]
def Q9x (r : Rec) (i j : Nat) : List Diff := [((i : Int) + 1, ((j : Int) + 1, (Q13 (Q9w r (evAt r i).1) ((evAt r j).2.1 - (evAt r i).2.1)).2)), ((j : Int) + 1, ((i : Int) + 1, IntKind.i64.wrap (0 - (Q13 (Q9w r (evAt r i).1) ((evAt r j).2.1 - (evAt r i).2.1)).1)))]
def Q33 (r : Rec) (i j : Nat) : List Diff := if (evAt r j).2.1 < (evAt r i).2.1 then Q9x r j i else Q9x r i j
theorem Q99 (r : Rec) (i j : Nat) : (Q33 r i j).length = 2 := by unfold Q33; split <;> rfl
def Q3j (r : Rec) (i j : Nat) : List Diff := if (evAt r j).1 = (evAt r i).1 then Q33 r i j else []
def Q1s (r : Rec) (n i : Nat) : List Diff := ((List.range n).filter fun j => decide (i < j)).flatMap (Q3j r i)
def Q4g (l : Link) : Diff := (l.2.1 + 1, (l.1 + 1, -l.2.2))
def nE (r : Rec) : Nat := r.2.2.1.length
def Q4p (r : Rec) : Bool := (List.range (nE r)).all fun i => (Q4f r i).2
def Q9y (r : Rec) : List Diff := (List.range (nE r)).flatMap (evD r) ++ (List.range (nE r)).flatMap (Q1s r (nE r)) ++ r.2.2.2.map Q4g
def Q4h (r : Rec) : Option (List Diff) := if Qq r && Q4p r then some (Q9y r) else none
theorem Q51 {r : Rec} (h : Qq r = true) : (∀ h ∈ r.1, 0 ≤ h.2 ∧ h.2 ≤ 500000) ∧ (∀ s ∈ r.2.1, 0 ≤ s.1 ∧ s.1 < r.1.length ∧ Q3h s = true) ∧
  (∀ e ∈ r.2.2.1, 0 ≤ e.1 ∧ e.1 < r.1.length ∧ 0 ≤ e.2.1 ∧ e.2.1 ≤ 8589934592) ∧
  (∀ l ∈ r.2.2.2, 0 ≤ l.1 ∧ l.1 < nE r ∧ 0 ≤ l.2.1 ∧ l.2.1 < nE r ∧ l.1 ≠ l.2.1 ∧ 0 ≤ l.2.2 ∧ l.2.2 ≤ 8589934592) := by
 unfold Qq at h
 simp only [Bool.and_eq_true, List.all_eq_true] at h
 obtain ⟨_, h1, h2, h3, h4⟩ := h
 refine ⟨fun x hx => ?_, fun x hx => ?_, fun x hx => ?_, fun x hx => ?_⟩
 ·exact Qy.1 (h1 x hx)
 ·have := h2 x hx
  simp only [Q4d, Bool.and_eq_true, Qy] at this
  exact ⟨by omega, by omega, this.2⟩
 ·have := h3 x hx
  simp only [Q3i, Bool.and_eq_true, Qy] at this
  omega
 ·have := h4 x hx
  simp only [Q4z, Bool.and_eq_true, Qy, Bool.not_eq_true', decide_eq_false_iff_not] at this
  unfold nE
  omega
theorem Q85 {r : Rec} (h : Qq r = true) {i : Nat} (hi : i < nE r) : 0 ≤ (evAt r i).1 ∧ (evAt r i).1 < r.1.length ∧ 0 ≤ (evAt r i).2.1 ∧ (evAt r i).2.1 ≤ 8589934592 :=
 (Q51 h).2.2.1 _ (Q82 hi)
theorem Qkg {r : Rec} {n : Nat} {d : Diff} : d ∈ (List.range n).flatMap (Q1s r n) ↔ ∃ i j, i < j ∧ j < n ∧ (evAt r j).1 = (evAt r i).1 ∧ d ∈ Q33 r i j := by
 simp only [List.mem_flatMap, Q1s, List.mem_filter, List.mem_range, decide_eq_true_eq, Q3j]
 constructor
 ·rintro ⟨i, hi, j, ⟨hj, hij⟩, hd⟩
  split at hd
  ·rename_i e
   exact ⟨i, j, hij, hj, e, hd⟩
  ·cases hd
 ·rintro ⟨i, j, hij, hj, e, hd⟩
  exact ⟨i, by omega, j, ⟨hj, hij⟩, by rw [if_pos e]; exact hd⟩
theorem mem_cons {r : Rec} {d : Diff} : d ∈ Q9y r ↔ (∃ i, i < nE r ∧ d ∈ evD r i) ∨ (∃ i j, i < j ∧ j < nE r ∧ (evAt r j).1 = (evAt r i).1 ∧ d ∈ Q33 r i j) ∨ ∃ l ∈ r.2.2.2, d = Q4g l := by
 unfold Q9y
 rw [List.mem_append, List.mem_append, Qkg, or_assoc]
 simp only [List.mem_flatMap, List.mem_range, List.mem_map, eq_comm]
theorem Q4q {α γ : Type} (f : α → List γ) (c : Nat) : ∀ l : List α, (∀ x ∈ l, (f x).length ≤ c) → (l.flatMap f).length ≤ l.length * c
 | [], _ => by simp
 | x :: l, h => by
  have h1 := h x (by simp)
  have h2 := Q4q f c l (fun y hy => h y (by simp [hy]))
  simp only [List.flatMap_cons, List.length_append, List.length_cons, Nat.succ_mul]
  omega
theorem Q6p (r : Rec) (i : Nat) : (Q1s r (nE r) i).length ≤ 2 * nE r := by
 have h3 := Q4q (Q3j r i) 2 ((List.range (nE r)).filter fun j => decide (i < j)) (fun j _ => by
  unfold Q3j
  split
  ·rw [Q99]; omega
  ·simp)
 have h4 := List.length_filter_le (fun j => decide (i < j)) (List.range (nE r))
 rw [List.length_range] at h4
 unfold Q1s at *
 omega
def Q21 (r : Rec) : Option Mat := match Q4h r with | some l => Q7k (nE r + 1) l | none => none
theorem Q8c {r : Rec} {i : Nat} (hi : i < nE r) : Q1s r (nE r) i = (List.range' (i + 1) (nE r - (i + 1))).flatMap (Q3j r i) := by
 unfold Q1s
 have e : ∀ n, i < n → (List.range n).filter (fun j => decide (i < j)) = List.range' (i + 1) (n - (i + 1)) := by
  intro n
  induction n with
  | zero => intro h; omega
  | succ n ihn =>
   intro h
   rw [List.range_succ, List.filter_append]
   by_cases hin : i < n
   ·rw [ihn hin]
    have : n + 1 - (i + 1) = (n - (i + 1)) + 1 := by omega
    rw [this, List.range'_concat]
    simp only [List.filter_cons, List.filter_nil, decide_eq_true hin, if_true]
    congr 2
    omega
   ·have hin' : n = i := by omega
    subst hin'
    have : (List.range n).filter (fun j => decide (n < j)) = [] := by
     rw [List.filter_eq_nil_iff]
     intro a ha
     simp only [List.mem_range] at ha
     simp only [decide_eq_true_eq]
     omega
    rw [this]
    simp
 rw [e _ hi]
section
variable {β : Type}
theorem Qby (k1 : zq16e β) {r : Rec} (hv : Qq r = true) {i j : Nat} (hi : i < nE r) (hj : j < nE r) : zq16i k1 (i : Int) (j : Int) r (evAt r i) (evAt r j) = k1 (Q9x r i j) := by
 have hb := Q1k hv
 have h1 := Q85 hv hi
 have h2 := Q85 hv hj
 unfold nE at hi hj
 have e1 : IntKind.i64.wrap ((i : Int) + 1) = i + 1 := i64_in _ (by omega)
 have e2 : IntKind.i64.wrap ((j : Int) + 1) = j + 1 := i64_in _ (by omega)
 have e3 : IntKind.i64.wrap ((evAt r j).2.1 - (evAt r i).2.1) = (evAt r j).2.1 - (evAt r i).2.1 := i64_in _ (by omega)
 unfold zq16i
 rw [Q0]
 unfold zq16h
 refine (Q6 (by omega)).trans ?_
 simp only [e1, e2, e3]
 exact Q3t _ _ _
theorem Qe2 {r : Rec} (hv : Qq r = true) {i j : Nat} (hi : i < nE r) (hj : j < nE r) (k : List Diff → Option β) : zq16l r (i : Int) (j : Int) k = k (Q33 r i j) := by
 have hi' := hi
 have hj' := hj
 unfold nE at hi' hj'
 unfold zq16l
 rw [Q0]
 unfold zq16k
 refine (Q6 (by omega)).trans ?_
 refine (Q6 (by omega)).trans ?_
 unfold Q33
 simp only [Int.toNat_natCast]
 by_cases hc : (evAt r j).2.1 < (evAt r i).2.1
 ·refine (Q8 hc).trans ?_
  rw [if_pos hc]
  exact Qby _ hv hj hi
 ·refine (Qa hc).trans ?_
  rw [if_neg hc]
  exact Qby _ hv hi hj
theorem Qnj (k1 : zq1du β) (k2 : zq1dv β) {r : Rec} (hv : Qq r = true) :
  zq1ea k1 k2 r.2.2.1 (r.2.2.1.length : Int) 0 r [] = cond (Q4p r) (k2 r ((List.range (nE r)).flatMap (evD r))) (k1 false []) := by
 have hb := Q1k hv
 have key := Q50 (nE r) (fun i (s : List Diff) => s.length ≤ 2 * i) (fun f j s => zq1e8 f k1 k2 r.2.2.1 (r.2.2.1.length : Int) j r s) (fun i => (Q4f r i).2)
  (fun s i => s ++ evD r i) (k1 false []) (fun s => k2 r s) [] fuel (Q3 (by unfold nE; omega)) (by simp)
  (fun i s hi hs _ => by simp only [List.length_append, evD, List.length_cons, List.length_nil]; omega)
  (fun f i s hi hs => by
   unfold nE at hi
   have e1 : IntKind.i64.wrap ((i : Int) + 1) = i + 1 := i64_in _ (by omega)
   rw [zq1e9]
   unfold zq1e7
   refine (Q8 (by omega)).trans ?_
   refine (Q6 (by omega)).trans ?_
   simp only [Int.toNat_natCast, e1]
   refine (Qdy _ _ _ _).trans ?_
   have hw : when? r (r.2.2.1.getD i (0, 0, [])).1 (r.2.2.1.getD i (0, 0, [])).2.1 = Q4f r i := rfl
   rw [hw]
   cases hk : (Q4f r i).2 with
   | false => rfl
   | true =>
    simp only [Bool.not_true, cond_false, cond_true]
    refine (Q1c (by simp only [List.length_cons, List.length_nil]; omega)).trans ?_
    rfl)
  (fun f s hs => by
   rw [zq1e9]
   unfold zq1e7
   exact Qa (by unfold nE; omega))
 unfold zq1ea
 rw [Q0]
 rw [key, Q4e]
 rfl
theorem Qnk (k1 : zq1e4 β) {r : Rec} (hv : Qq r = true) {i : Nat} (hi : i < nE r) (t52 : List Q3l) (t53 t54 : Int) (out : List Diff) (ho : out.length ≤ 4000) :
  zq1ef k1 (i : Int) ((i : Int) + 1) t52 t53 t54 r out (evAt r i) = k1 t52 t53 t54 r (out ++ Q1s r (nE r) i) := by
 have hb := Q1k hv
 have key : ∀ (c j f : Nat) (s : List Diff), j + c = nE r → i < j → c < f → s.length + 2 * c ≤ 100000 →
   zq1ed f k1 (i : Int) (j : Int) t52 t53 t54 r s (evAt r i) = k1 t52 t53 t54 r (s ++ (List.range' j c).flatMap (Q3j r i)) := by
  intro c
  induction c with
  | zero =>
   intro j f s hj hij hf hs
   obtain ⟨f, rfl⟩ : ∃ m, f = m + 1 := ⟨f - 1, by omega⟩
   rw [zq1ee]
   unfold zq1ec
   unfold nE at hj
   refine (Qa (by omega)).trans ?_
   simp
  | succ c ih =>
   intro j f s hj hij hf hs
   obtain ⟨f, rfl⟩ : ∃ m, f = m + 1 := ⟨f - 1, by omega⟩
   rw [zq1ee]
   unfold zq1ec
   have hj' : j < nE r := by omega
   have hjn : (j : Int) < (r.2.2.1.length : Int) := by unfold nE at hj'; omega
   have e1 : IntKind.i64.wrap ((j : Int) + 1) = ((j + 1 : Nat) : Int) := i64_in _ (by unfold nE at hj'; omega)
   refine (Q8 hjn).trans ?_
   refine (Q6 (by omega)).trans ?_
   simp only [Int.toNat_natCast, e1]
   rw [List.range'_succ, List.flatMap_cons]
   have hpi : Q3j r i j = if (evAt r j).1 = (evAt r i).1 then Q33 r i j else [] := rfl
   rw [hpi]
   by_cases hh : (evAt r j).1 = (evAt r i).1
   ·refine (Q8 (p := (r.2.2.1.getD j ((0 : Int), ((0 : Int), ([] : List UInt8)))).1 = (evAt r i).1) hh).trans ?_
    rw [if_pos hh]
    refine (Qe2 hv hi hj' _).trans ?_
    have hp := Q99 r i j
    refine (Q1c (by omega)).trans ?_
    refine (ih (j + 1) f _ (by omega) (by omega) (by omega) (by rw [List.length_append]; omega)).trans ?_
    rw [List.append_assoc]
   ·refine (Qa (p := (r.2.2.1.getD j ((0 : Int), ((0 : Int), ([] : List UInt8)))).1 = (evAt r i).1) hh).trans ?_
    rw [if_neg hh]
    refine (ih (j + 1) f _ (by omega) (by omega) (by omega) (by omega)).trans ?_
    rw [List.nil_append]
 unfold zq1ef
 rw [Q0]
 have h1 := key (nE r - (i + 1)) (i + 1) fuel out (by omega) (by omega) (Q3 (by unfold nE at *; omega)) (by unfold nE at *; omega)
 rw [show ((i : Int) + 1) = ((i + 1 : Nat) : Int) by omega, h1]
 rw [Q8c hi]
theorem Qnl (k1 : zq1dy β) {r : Rec} (hv : Qq r = true) (out : List Diff) (ho : out.length ≤ 80) :
  zq1ek k1 r.2.2.1 (r.2.2.1.length : Int) 0 r out = k1 r (out ++ (List.range (nE r)).flatMap (Q1s r (nE r))) := by
 have hb := Q1k hv
 have h2 : ∀ i, (Q1s r (nE r) i).length ≤ 80 := fun i => by have := Q6p r i; unfold nE at this ⊢; omega
 have key := Q2z (nE r) (fun i (s : List Diff) => s.length ≤ 80 + 80 * i) (fun f j s => zq1ei f k1 r.2.2.1 (r.2.2.1.length : Int) j r s)
  (fun s i => s ++ Q1s r (nE r) i) (fun s => k1 r s) out fuel (Q3 (by unfold nE; omega)) (by omega)
  (fun i s hi hs => by have := h2 i; rw [List.length_append]; omega)
  (fun f i s hi hs => by
   have hi' := hi
   unfold nE at hi'
   have e1 : IntKind.i64.wrap ((i : Int) + 1) = i + 1 := i64_in _ (by omega)
   rw [zq1ej]
   unfold zq1eh
   refine (Q8 (by omega)).trans ?_
   refine (Q6 (by omega)).trans ?_
   simp only [Int.toNat_natCast, e1]
   refine (Qnk _ hv hi _ _ _ s (by omega)).trans ?_
   simp only [e1])
  (fun f s hs => by
   rw [zq1ej]
   unfold zq1eh
   exact Qa (by unfold nE; omega))
 unfold zq1ek
 rw [Q0]
 rw [key, Q4e]
theorem Qnm (k1 : zq1e1 β) (l : List Link) (hl : l.length ≤ 1000) (hok : ∀ x ∈ l, 0 ≤ x.1 ∧ x.1 ≤ 1000 ∧ 0 ≤ x.2.1 ∧ x.2.1 ≤ 1000 ∧ 0 ≤ x.2.2 ∧ x.2.2 ≤ 8589934592) (out : List Diff) (ho : out.length ≤ 10000) :
  zq1ep k1 l (l.length : Int) 0 out = k1 (out ++ l.map Q4g) := by
 have key := Q1i (fun i (s : List Diff) => s.length ≤ 10000 + i) (fun f j s => zq1en f k1 l (l.length : Int) j s)
  (fun s x => s ++ [Q4g x]) (fun s => k1 s) ((0 : Int), ((0 : Int), (0 : Int))) l out fuel (Q3 (by omega)) (by omega)
  (fun i s hi hs => by simp only [List.length_append, List.length_cons, List.length_nil]; omega)
  (fun f i s hi hs => by
   have e1 : IntKind.i64.wrap ((i : Int) + 1) = i + 1 := i64_in _ (by omega)
   have hx := hok _ (Q82 (d := ((0 : Int), ((0 : Int), (0 : Int)))) hi)
   rw [zq1eo]
   unfold zq1em
   refine (Q8 (by omega)).trans ?_
   refine (Q6 (by omega)).trans ?_
   simp only [Int.toNat_natCast, e1]
   generalize l.getD i ((0 : Int), ((0 : Int), (0 : Int))) = x at hx
   have e2 : IntKind.i64.wrap (x.2.1 + 1) = x.2.1 + 1 := i64_in _ (by omega)
   have e3 : IntKind.i64.wrap (x.1 + 1) = x.1 + 1 := i64_in _ (by omega)
   have e4 : IntKind.i64.wrap (0 - x.2.2) = -x.2.2 := (i64_in _ (by omega)).trans (by omega)
   simp only [e2, e3, e4]
   refine (Q1c (by simp only [List.length_cons, List.length_nil]; omega)).trans ?_
   rfl)
  (fun f s hs => by
   rw [zq1eo]
   unfold zq1em
   exact Qa (by omega))
 unfold zq1ep
 rw [Q0]
 rw [key]
 have : ∀ (l : List Link) (s : List Diff), l.foldl (fun s x => s ++ [Q4g x]) s = s ++ l.map Q4g := by
  intro l
  induction l with
  | nil => intro s; simp
  | cons x l ih => intro s; simp only [List.foldl_cons, List.map_cons]; rw [ih, List.append_assoc]; rfl
 rw [this]
theorem Qcq (r : Rec) (k : Bool → List Diff → Option β) : zq1es r k = (match Q4h r with | some l => k true l | none => k false []) := by
 unfold zq1es
 rw [Q0]
 unfold zq1er
 refine (Q7l _ _).trans ?_
 unfold Q4h
 cases hv : Qq r with
 | false => rfl
 | true =>
  have hb := Q1k hv
  have hp := Q51 hv
  simp only [Bool.not_true, cond_false, Bool.true_and]
  refine (Qnj _ _ hv).trans ?_
  cases hw : Q4p r with
  | false => rfl
  | true =>
   simp only [cond_true, if_true]
   have h1 := Q4q (evD r) 2 (List.range (nE r)) (fun i _ => by simp [evD])
   rw [List.length_range] at h1
   have h2 := Q4q (Q1s r (nE r)) 80 (List.range (nE r)) (fun i _ => by have := Q6p r i; unfold nE at this ⊢; omega)
   rw [List.length_range] at h2
   unfold Q9y
   refine (Qnl _ hv _ (by unfold nE at *; omega)).trans ?_
   exact Qnm _ _ (by omega) (fun x hx => by have := hp.2.2.2 x hx; unfold nE at *; omega) _ (by rw [List.length_append]; unfold nE at *; omega)
theorem Qkh {r : Rec} {l : List Diff} (h : Q4h r = some l) : nE r ≤ 40 := by
 unfold Q4h at h
 by_cases hh : (Qq r && Q4p r) = true
 ·rw [Bool.and_eq_true] at hh
  have := Q1k hh.1
  unfold nE
  omega
 ·rw [if_neg hh] at h
  cases h
theorem Qdh (r : Rec) (k : Mat → Bool → Option β) : zq1k1 r k = (match Q21 r with | some m => k m true | none => k [] false) := by
 unfold zq1k1
 rw [Q0]
 unfold zq1k0
 refine (Qcq _ _).trans ?_
 unfold Q21
 cases hc : Q4h r with
 | none => rfl
 | some l =>
  simp only [Bool.not_true, cond_false]
  have hn := Qkh hc
  have e1 : IntKind.i64.wrap ((r.2.2.1.length : Int) + 1) = ((nE r + 1 : Nat) : Int) := i64_in _ (by unfold nE at hn; omega)
  rw [e1]
  exact Qlq (by omega) (by omega) l _
theorem Qki (n lo hi : Int) (k : Bool → Option β) : zqfa n lo hi k = k (inN n lo hi) := by
 simp only [zqfa, Q0, zqf9, inN, c_kb]
theorem Qlt (k1 : zq141 β) (k2 : zq142 β) {r : Rec} (hv : Qq r = true) :
  zq14k k1 k2 0 r [] = cond (Q4p r) (k2 r ((List.range (nE r)).flatMap (evD r))) (k1 false []) := by
 have hb := Q1k hv
 have key := Q50 (nE r) (fun i (s : List Diff) => s.length ≤ 2 * i) (fun f j s => zq14i f k1 k2 j r s) (fun i => (Q4f r i).2)
  (fun s i => s ++ evD r i) (k1 false []) (fun s => k2 r s) [] fuel (Q3 (by unfold nE; omega)) (by simp)
  (fun i s hi hs _ => by simp only [List.length_append, evD, List.length_cons, List.length_nil]; omega)
  (fun f i s hi hs => by
   unfold nE at hi
   have e1 : IntKind.i64.wrap ((i : Int) + 1) = i + 1 := i64_in _ (by omega)
   rw [zq14j]
   unfold zq14h
   refine (Q8 (by omega)).trans ?_
   refine (Q6 (by omega)).trans ?_
   refine (Q6 (by omega)).trans ?_
   simp only [Int.toNat_natCast, e1]
   refine (Qe1 _ _ _ _).trans ?_
   have hw : when? r (r.2.2.1.getD i (0, 0, [])).1 (r.2.2.1.getD i (0, 0, [])).2.1 = Q4f r i := rfl
   rw [hw]
   cases hk : (Q4f r i).2 with
   | false => rfl
   | true =>
    simp only [Bool.not_true, cond_false, cond_true]
    refine (Q1c (by simp only [List.length_cons, List.length_nil]; omega)).trans ?_
    rfl)
  (fun f s hs => by
   rw [zq14j]
   unfold zq14h
   exact Qa (by unfold nE; omega))
 unfold zq14k
 rw [Q0]
 rw [key, Q4e]
 rfl
theorem Qfw (k1 : zq14e β) {r : Rec} {x : Q3l} {d a b : Int} (hx : 0 ≤ x.1 ∧ x.1 < r.1.length) (i j : Int) (out : List Diff) (ho : out.length ≤ 100000) :
  zq14n k1 i j a b d r out x = k1 i j r (out ++ [(a, (b, (Q13 (Q9w r x.1) d).2)), (b, (a, IntKind.i64.wrap (0 - (Q13 (Q9w r x.1) d).1)))]) := by
 unfold zq14n
 rw [Q0]
 unfold zq14m
 refine (Q6 hx).trans ?_
 refine (Q6d _ _ _).trans ?_
 exact Q1c (by simp only [List.length_cons, List.length_nil]; omega)
theorem Qlu (k1 : zq14b β) {r : Rec} (hv : Qq r = true) {i : Nat} (hi : i < nE r) (out : List Diff) (ho : out.length ≤ 4000) :
  zq14s k1 (i : Int) ((i : Int) + 1) r out = k1 (i : Int) r (out ++ Q1s r (nE r) i) := by
 have hb := Q1k hv
 have key : ∀ (c j f : Nat) (s : List Diff), j + c = nE r → i < j → c < f → s.length + 2 * c ≤ 100000 →
   zq14q f k1 (i : Int) (j : Int) r s = k1 (i : Int) r (s ++ (List.range' j c).flatMap (Q3j r i)) := by
  intro c
  induction c with
  | zero =>
   intro j f s hj hij hf hs
   obtain ⟨f, rfl⟩ : ∃ m, f = m + 1 := ⟨f - 1, by omega⟩
   rw [zq14r]
   unfold zq14p
   unfold nE at hj
   refine (Qa (by omega)).trans ?_
   simp
  | succ c ih =>
   intro j f s hj hij hf hs
   obtain ⟨f, rfl⟩ : ∃ m, f = m + 1 := ⟨f - 1, by omega⟩
   have hj' : j < nE r := by omega
   have hin : (i : Int) < (r.2.2.1.length : Int) := by unfold nE at hi; omega
   have hjn : (j : Int) < (r.2.2.1.length : Int) := by unfold nE at hj'; omega
   have e0 : IntKind.i64.wrap ((i : Int) + 1) = (i : Int) + 1 := i64_in _ (by unfold nE at hi; omega)
   have e1 : IntKind.i64.wrap ((j : Int) + 1) = (j : Int) + 1 := i64_in _ (by unfold nE at hj'; omega)
   have e1' : ((j + 1 : Nat) : Int) = (j : Int) + 1 := by omega
   have b1 := Q85 hv hi
   have b2 := Q85 hv hj'
   rw [zq14r]
   unfold zq14p
   refine (Q8 hjn).trans ?_
   refine (Q6 (by omega)).trans ?_
   refine (Q6 (by omega)).trans ?_
   unfold evAt at b1 b2
   have e2 : IntKind.i64.wrap ((r.2.2.1.getD j ((0 : Int), ((0 : Int), ([] : List UInt8)))).2.1 - (r.2.2.1.getD i ((0 : Int), ((0 : Int), ([] : List UInt8)))).2.1) = (r.2.2.1.getD j ((0 : Int), ((0 : Int), ([] : List UInt8)))).2.1 - (r.2.2.1.getD i ((0 : Int), ((0 : Int), ([] : List UInt8)))).2.1 := i64_in _ (by omega)
   have e3 : IntKind.i64.wrap (0 - ((r.2.2.1.getD j ((0 : Int), ((0 : Int), ([] : List UInt8)))).2.1 - (r.2.2.1.getD i ((0 : Int), ((0 : Int), ([] : List UInt8)))).2.1)) = (r.2.2.1.getD i ((0 : Int), ((0 : Int), ([] : List UInt8)))).2.1 - (r.2.2.1.getD j ((0 : Int), ((0 : Int), ([] : List UInt8)))).2.1 := (i64_in _ (by omega)).trans (by omega)
   simp only [Int.toNat_natCast, e0, e1, e2, e3]
   rw [List.range'_succ, List.flatMap_cons]
   have hpi : Q3j r i j = if (evAt r j).1 = (evAt r i).1 then Q33 r i j else [] := rfl
   have hp := Q99 r i j
   rw [hpi]
   by_cases hh : (r.2.2.1.getD i ((0 : Int), ((0 : Int), ([] : List UInt8)))).1 = (r.2.2.1.getD j ((0 : Int), ((0 : Int), ([] : List UInt8)))).1
   ·refine (Q3f hh).trans ?_
    rw [if_pos (show (evAt r j).1 = (evAt r i).1 from hh.symm)]
    have fin : zq14q f k1 (i : Int) ((j : Int) + 1) r (s ++ Q33 r i j) = k1 (i : Int) r (s ++ (Q33 r i j ++ (List.range' (j + 1) c).flatMap (Q3j r i))) := by
     rw [← e1', ih (j + 1) f _ (by omega) (by omega) (by omega) (by rw [List.length_append]; omega), List.append_assoc]
    by_cases hc : (r.2.2.1.getD j ((0 : Int), ((0 : Int), ([] : List UInt8)))).2.1 < (r.2.2.1.getD i ((0 : Int), ((0 : Int), ([] : List UInt8)))).2.1
    ·refine (Q8 (by omega)).trans ?_
     refine (Qfw _ (by omega) _ _ s (by omega)).trans ?_
     rw [← fin]
     simp only [e1]
     unfold Q33 Q9x evAt
     rw [if_pos hc, hh]
    ·refine (Qa (by omega)).trans ?_
     refine (Qfw _ (by omega) _ _ s (by omega)).trans ?_
     rw [← fin]
     simp only [e1]
     unfold Q33 Q9x evAt
     rw [if_neg hc]
   ·refine (Q1d hh).trans ?_
    rw [if_neg (show ¬ (evAt r j).1 = (evAt r i).1 from fun e => hh e.symm), List.nil_append, ← e1']
    exact ih (j + 1) f _ (by omega) (by omega) (by omega) (by omega)
 unfold zq14s
 rw [Q0]
 have h1 := key (nE r - (i + 1)) (i + 1) fuel out (by omega) (by omega) (Q3 (by unfold nE at *; omega)) (by unfold nE at *; omega)
 rw [show ((i : Int) + 1) = ((i + 1 : Nat) : Int) by omega, h1]
 rw [Q8c hi]
theorem Qlv (k1 : zq145 β) {r : Rec} (hv : Qq r = true) (out : List Diff) (ho : out.length ≤ 80) :
  zq14x k1 0 r out = k1 r (out ++ (List.range (nE r)).flatMap (Q1s r (nE r))) := by
 have hb := Q1k hv
 have h2 : ∀ i, (Q1s r (nE r) i).length ≤ 80 := fun i => by have := Q6p r i; unfold nE at this ⊢; omega
 have key := Q2z (nE r) (fun i (s : List Diff) => s.length ≤ 80 + 80 * i) (fun f j s => zq14v f k1 j r s)
  (fun s i => s ++ Q1s r (nE r) i) (fun s => k1 r s) out fuel (Q3 (by unfold nE; omega)) (by omega)
  (fun i s hi hs => by have := h2 i; rw [List.length_append]; omega)
  (fun f i s hi hs => by
   have hi' := hi
   unfold nE at hi'
   have e1 : IntKind.i64.wrap ((i : Int) + 1) = i + 1 := i64_in _ (by omega)
   rw [zq14w]
   unfold zq14u
   simp only [e1]
   refine (Q8 (by omega)).trans ?_
   refine (Qlu _ hv hi s (by omega)).trans ?_
   simp only [e1])
  (fun f s hs => by
   rw [zq14w]
   unfold zq14u
   exact Qa (by unfold nE; omega))
 unfold zq14x
 rw [Q0]
 rw [key, Q4e]
theorem Qlw (k1 : zq148 β) {r : Rec} (hv : Qq r = true) (out : List Diff) (ho : out.length ≤ 10000) :
  zq152 k1 0 r out = k1 (out ++ r.2.2.2.map Q4g) := by
 have hb := Q1k hv
 have hp := Q51 hv
 have key := Q1i (fun i (s : List Diff) => s.length ≤ 10000 + i) (fun f j s => zq150 f k1 j r s)
  (fun s x => s ++ [Q4g x]) (fun s => k1 s) ((0 : Int), ((0 : Int), (0 : Int))) r.2.2.2 out fuel (Q3 (by omega)) (by omega)
  (fun i s hi hs => by simp only [List.length_append, List.length_cons, List.length_nil]; omega)
  (fun f i s hi hs => by
   have e1 : IntKind.i64.wrap ((i : Int) + 1) = i + 1 := i64_in _ (by omega)
   have hx := hp.2.2.2 _ (Q82 (d := ((0 : Int), ((0 : Int), (0 : Int)))) hi)
   unfold nE at hx
   have e2 : IntKind.i64.wrap ((r.2.2.2.getD i (0, 0, 0)).2.1 + 1) = (r.2.2.2.getD i (0, 0, 0)).2.1 + 1 := i64_in _ (by omega)
   have e3 : IntKind.i64.wrap ((r.2.2.2.getD i (0, 0, 0)).1 + 1) = (r.2.2.2.getD i (0, 0, 0)).1 + 1 := i64_in _ (by omega)
   have e4 : IntKind.i64.wrap (0 - (r.2.2.2.getD i (0, 0, 0)).2.2) = -(r.2.2.2.getD i (0, 0, 0)).2.2 := (i64_in _ (by omega)).trans (by omega)
   rw [zq151]
   unfold zq14z
   refine (Q8 (by omega)).trans ?_
   refine (Q6 (by omega)).trans ?_
   refine (Q6 (by omega)).trans ?_
   refine (Q6 (by omega)).trans ?_
   simp only [Int.toNat_natCast, e1, e2, e3, e4]
   refine (Q1c (by simp only [List.length_cons, List.length_nil]; omega)).trans ?_
   rfl)
  (fun f s hs => by
   rw [zq151]
   unfold zq14z
   exact Qa (by omega))
 unfold zq152
 rw [Q0]
 rw [key]
 have : ∀ (l : List Link) (s : List Diff), l.foldl (fun s x => s ++ [Q4g x]) s = s ++ l.map Q4g := by
  intro l
  induction l with
  | nil => intro s; simp
  | cons x l ih => intro s; simp only [List.foldl_cons, List.map_cons]; rw [ih, List.append_assoc]; rfl
 rw [this]
theorem Qbz (r : Rec) (k : Bool → List Diff → Option β) : zq155 r k = (match Q4h r with | some l => k true l | none => k false []) := by
 unfold zq155
 rw [Q0]
 unfold zq154
 refine (Q7m _ _).trans ?_
 unfold Q4h
 cases hv : Qq r with
 | false => rfl
 | true =>
  have hb := Q1k hv
  refine c_nt.trans ?_
  rw [Bool.true_and]
  refine (Qlt _ _ hv).trans ?_
  cases hw : Q4p r with
  | false => rfl
  | true =>
   refine c_t.trans ?_
   rw [if_pos rfl]
   have h1 := Q4q (evD r) 2 (List.range (nE r)) (fun i _ => by simp [evD])
   rw [List.length_range] at h1
   have h2 := Q4q (Q1s r (nE r)) 80 (List.range (nE r)) (fun i _ => by have := Q6p r i; unfold nE at this ⊢; omega)
   rw [List.length_range] at h2
   unfold Q9y
   refine (Qlv _ hv _ (by unfold nE at *; omega)).trans ?_
   exact Qlw _ hv _ (by rw [List.length_append]; unfold nE at *; omega)
theorem Qgu {r : Rec} (hv : Qq r = true) : Qbx (Q9y r) := by
 intro d hd
 have hp := Q51 hv
 rcases mem_cons.1 hd with ⟨i, hi, hd⟩ | ⟨i, j, hij, hj, hh, hd⟩ | ⟨l, hl, rfl⟩
 ·simp only [evD, List.mem_cons, List.not_mem_nil, or_false] at hd
  rcases hd with rfl | rfl <;> simp only <;> omega
 ·unfold Q33 Q9x at hd
  split at hd <;> simp only [List.mem_cons, List.not_mem_nil, or_false] at hd <;> rcases hd with rfl | rfl <;> simp only <;> omega
 ·have := hp.2.2.2 l hl
  simp only [Q4g]
  omega
theorem Qc0 (r : Rec) (k : Mat → Bool → Option β) : zq19s r k = (match Q21 r with | some m => k m true | none => k [] false) := by
 unfold zq19s
 rw [Q0]
 unfold zq19r
 refine (Qbz _ _).trans ?_
 unfold Q21
 cases hc : Q4h r with
 | none => rfl
 | some l =>
  simp only [Bool.not_true, cond_false]
  have hc' := hc
  unfold Q4h at hc'
  by_cases hh : (Qq r && Q4p r) = true
  ·rw [if_pos hh] at hc'
   rw [Bool.and_eq_true] at hh
   cases hc'
   have := Q1k hh.1
   have e1 : IntKind.i64.wrap ((r.2.2.1.length : Int) + 1) = ((nE r + 1 : Nat) : Int) := i64_in _ (by omega)
   rw [e1]
   exact Qcp (by omega) (by unfold nE; omega) (Qgu hh.1) _
  ·rw [if_neg hh] at hc'
   cases hc'
theorem Q9a {r : Rec} {m : Mat} (h : Q21 r = some m) : Sq (nE r + 1) m ∧ nE r ≤ 40 := by
 unfold Q21 at h
 cases hc : Q4h r with
 | none => rw [hc] at h; cases h
 | some l =>
  rw [hc] at h
  refine ⟨?_, Qkh hc⟩
  unfold Q7k at h
  dsimp only at h
  split at h
  ·split at h
   ·rename_i m' hr
    split at h
    ·cases h
     exact Q83 _ 0 _ _ (Q2d _ l).diagW hr
    ·cases h
   ·cases h
  ·cases h
def gapG (r : Rec) (a b : Int) : (Int × Int) × Bool := match Q21 r with
 | some m => if inN a 0 ((nE r : Int) - 1) && inN b 0 ((nE r : Int) - 1) then ((IntKind.i64.wrap (0 - at2 m (b.toNat + 1) (a.toNat + 1)), at2 m (a.toNat + 1) (b.toNat + 1)), true) else ((0, 0), false)
 | none => ((0, 0), false)
theorem Qfx {r : Rec} {m : Mat} (he : Q21 r = some m) {a b : Nat} (ha : a < nE r) (hb : b < nE r) {k : Int × Int → Bool → Option β} :
  cond (decide (0 ≤ IntKind.i64.wrap ((b : Int) + 1)) && decide (IntKind.i64.wrap ((b : Int) + 1) < (m.length : Int)))
   (cond (decide (0 ≤ IntKind.i64.wrap ((a : Int) + 1)) && decide (IntKind.i64.wrap ((a : Int) + 1) < ((m.getD (IntKind.i64.wrap ((b : Int) + 1)).toNat []).length : Int)))
    (cond (decide (0 ≤ IntKind.i64.wrap ((a : Int) + 1)) && decide (IntKind.i64.wrap ((a : Int) + 1) < (m.length : Int)))
     (cond (decide (0 ≤ IntKind.i64.wrap ((b : Int) + 1)) && decide (IntKind.i64.wrap ((b : Int) + 1) < ((m.getD (IntKind.i64.wrap ((a : Int) + 1)).toNat []).length : Int)))
      (k (IntKind.i64.wrap (0 - (m.getD (IntKind.i64.wrap ((b : Int) + 1)).toNat []).getD (IntKind.i64.wrap ((a : Int) + 1)).toNat 0), (m.getD (IntKind.i64.wrap ((a : Int) + 1)).toNat []).getD (IntKind.i64.wrap ((b : Int) + 1)).toNat 0) true) none) none) none) none
   = k (IntKind.i64.wrap (0 - at2 m (b + 1) (a + 1)), at2 m (a + 1) (b + 1)) true := by
 obtain ⟨h, hn⟩ := Q9a he
 have e1 : IntKind.i64.wrap ((a : Int) + 1) = ((a + 1 : Nat) : Int) := i64_in _ (by omega)
 have e2 : IntKind.i64.wrap ((b : Int) + 1) = ((b + 1 : Nat) : Int) := i64_in _ (by omega)
 have l0 := h.len
 have l1 := h.row (b + 1) (by omega)
 have l2 := h.row (a + 1) (by omega)
 rw [e1, e2]
 simp only [Int.toNat_natCast]
 refine (Q6 (by omega)).trans ?_
 refine (Q6 (by omega)).trans ?_
 refine (Q6 (by omega)).trans ?_
 exact Q6 (by omega)
theorem Qos (r : Rec) (a b : Int) (k : Int × Int → Bool → Option β) : zq1lk r a b k = k (gapG r a b).1 (gapG r a b).2 := by
 unfold zq1lk
 rw [Q0]
 unfold zq1lj
 unfold zq1k5
 rw [Q0]
 unfold zq1k4
 refine (Qdh _ _).trans ?_
 unfold gapG
 cases he : Q21 r with
 | none => rfl
 | some m =>
  have hn := (Q9a he).2
  have e1 : IntKind.i64.wrap ((r.2.2.1.length : Int) - 1) = (nE r : Int) - 1 := i64_in _ (by unfold nE at hn; omega)
  simp only [cond_true, e1]
  refine (Qki _ _ _ _).trans ?_
  cases ha : inN a 0 ((nE r : Int) - 1) with
  | false => rfl
  | true =>
   refine c_t.trans ((Qki _ _ _ _).trans ?_)
   cases hb : inN b 0 ((nE r : Int) - 1) with
   | false => rfl
   | true =>
    rw [Qy] at ha hb
    obtain ⟨a, rfl⟩ : ∃ a' : Nat, a = a' := ⟨a.toNat, by omega⟩
    obtain ⟨b, rfl⟩ : ∃ a' : Nat, b = a' := ⟨b.toNat, by omega⟩
    exact Qfx he (by omega) (by omega)
theorem Qoh (r : Rec) (a b : Int) (k : Int × Int → Bool → Option β) : zq1dm r a b k = k (gapG r a b).1 (gapG r a b).2 := by
 unfold zq1dm
 rw [Q0]
 unfold zq1dl
 refine (Qc0 _ _).trans ?_
 unfold gapG
 cases he : Q21 r with
 | none => rfl
 | some m =>
  have hn := (Q9a he).2
  have e1 : IntKind.i64.wrap ((r.2.2.1.length : Int) - 1) = (nE r : Int) - 1 := i64_in _ (by unfold nE at hn; omega)
  simp only [Bool.not_true, cond_false, e1]
  refine (Qx _ _ _ _).trans ?_
  cases ha : inN a 0 ((nE r : Int) - 1) with
  | false => rfl
  | true =>
   refine c_nt.trans ((Qx _ _ _ _).trans ?_)
   cases hb : inN b 0 ((nE r : Int) - 1) with
   | false => rfl
   | true =>
    rw [Qy] at ha hb
    obtain ⟨a, rfl⟩ : ∃ a' : Nat, a = a' := ⟨a.toNat, by omega⟩
    obtain ⟨b, rfl⟩ : ∃ a' : Nat, b = a' := ⟨b.toNat, by omega⟩
    exact Qfx he (by omega) (by omega)
def betW (r : Rec) (a b : Int) : (Int × Int) × Int :=
 if (Q21 r).isSome then (if (gapG r a b).2 then (if (gapG r a b).1.2 < 0 then ((0, 0), 6) else ((if (0 : Int) > (gapG r a b).1.1 then (0 : Int) else (gapG r a b).1.1, (gapG r a b).1.2), 0)) else ((0, 0), 3)) else ((0, 0), 8)
theorem Qio (r : Rec) (a b : Int) (k : Int × Int → Int → Option β) : zq1m4 r a b k = k (betW r a b).1 (betW r a b).2 := by
 unfold zq1m4
 rw [Q0]
 unfold zq1m3
 unfold zq1lg
 rw [Q0]
 unfold zq1lf betW
 refine (Qdh _ _).trans ?_
 cases he : Q21 r with
 | none => rfl
 | some m =>
  refine c_nt.trans ((Qos _ _ _ _).trans ?_)
  generalize gapG r a b = g
  cases g.2 with
  | false => rfl
  | true =>
   refine c_nt.trans ?_
   by_cases h : g.1.2 < 0
   ·refine (Q8 h).trans ?_
    simp [h]
   ·refine (Qa h).trans ?_
    simp [h]
theorem Qgv (r : Rec) (a b : Int) (k : Int × Int → Int → Option β) : zq1ft r a b k = k (betW r a b).1 (betW r a b).2 := by
 unfold zq1ft
 rw [Q0]
 unfold zq1fs
 unfold zq1di
 rw [Q0]
 unfold zq1dh betW
 refine (Qc0 _ _).trans ?_
 cases he : Q21 r with
 | none => rfl
 | some m =>
  refine c_nt.trans ((Qoh _ _ _ _).trans ?_)
  generalize gapG r a b = g
  cases g.2 with
  | false => rfl
  | true =>
   refine c_nt.trans ?_
   by_cases h : g.1.2 < 0
   ·refine (Q8 h).trans ?_
    simp [h]
   ·refine (Qa h).trans ?_
    simp [h]
end
end
end Go.Lift
namespace Go.Lift
open Go.RowKit Go.IntWalk
noncomputable section
set_option linter.unusedVariables false
set_option linter.unusedSimpArgs false
set_option maxRecDepth 10000
def Qkj (r : Rec) : Prop := 1 ≤ r.1.length ∧ r.1.length ≤ 100 ∧ r.2.1.length ≤ 100 ∧ r.2.2.1.length ≤ 100 ∧ r.2.2.2.length ≤ 100
section
variable {β : Type} {G : Option β → Prop}
theorem Qkk {n : Int} {b4 : List Host} {b5 : List Sync} {b6 : List Q3l} {b7 : List Link} {b9 : List Sync} {b10 : List Q3l} {b11 : List Link} {k1 : zqom β}
  (h1 : ∀ d a b8, Q9 d → 1 ≤ b8.length → b8.length ≤ 3 → a.length = b8.length → G (k1 n d a b4 b5 b6 b7 b8 b9 b10 b11)) :
  ∀ (m : Nat) (i : Int) (d : Dice) (a : List Int) (b8 : List Host), Q9 d → 0 ≤ i → 1 ≤ (b8.length : Int) + i → (b8.length : Int) + i ≤ 3 → a.length = b8.length → i.toNat < m → G (zqp2 m k1 n i d a b4 b5 b6 b7 b8 b9 b10 b11)
 | 0, _, _, _, _, _, _, _, _, _, h => absurd h (Nat.not_lt_zero _)
 | m + 1, i, d, a, b8, hd, h0, h3, h4, ha, hm => by
  rw [zqp3]
  unfold zqp1
  refine w_d (fun h => ?_) (fun _ => h1 _ _ _ hd (by omega) (by omega) ha)
  have e := i64_in (i - 1) (by omega)
  refine w_i (by simp only [List.length_cons, List.length_nil]; omega) (Q16 ⟨by decide, by decide⟩ hd fun r d _ hd => w_r (by simp only [List.length_singleton]; omega) (Q16 ⟨by decide, by decide⟩ hd fun r2 d _ hd => w_r (by simp only [List.length_singleton]; omega) ?_))
  exact Qkk h1 m _ d _ _ hd (by omega) (by rw [List.length_append, List.length_singleton]; omega) (by rw [List.length_append, List.length_singleton]; omega) (by rw [List.length_append, List.length_append, ha]; rfl) (by omega)
theorem Qkl {n : Int} {a : List Int} {b4 b8 : List Host} {b5 : List Sync} {b6 : List Q3l} {b7 : List Link} {b10 : List Q3l} {b11 : List Link} (h8 : 1 ≤ b8.length) (h8' : b8.length ≤ 3) (ha : a.length = b8.length) {k1 : zqop β}
  (h1 : ∀ d b9, Q9 d → b9.length ≤ 10 → G (k1 n d a b4 b5 b6 b7 b8 b9 b10 b11)) :
  ∀ (m : Nat) (i : Int) (d : Dice) (b9 : List Sync), Q9 d → 0 ≤ i → (b9.length : Int) + i ≤ 10 → i.toNat < m → G (zqp7 m k1 n i d a b4 b5 b6 b7 b8 b9 b10 b11)
 | 0, _, _, _, _, _, _, h => absurd h (Nat.not_lt_zero _)
 | m + 1, i, d, b9, hd, h0, h3, hm => by
  rw [zqp8]
  unfold zqp6
  refine w_d (fun h => ?_) (fun _ => h1 _ _ hd (by omega))
  have e := i64_in (i - 1) (by omega)
  refine Qc (by omega) hd fun x d hx hx1 hd => Qc (by decide) hd fun y d _ _ hd => w_i (by have := hx1 (by omega); omega) (Q16 ⟨by decide, by decide⟩ hd fun r d _ hd => Q16 ⟨by decide, by decide⟩ hd fun r2 d _ hd => w_r (by simp only [List.length_singleton]; omega) ?_)
  exact Qkl h8 h8' ha h1 m _ d _ hd (by omega) (by rw [List.length_append, List.length_singleton]; omega) (by omega)
theorem Qkm {a : List Int} {b5 b9 : List Host} {b6 b10 : List Sync} {b7 : List Q3l} {b8 b12 : List Link} (h8 : 1 ≤ b9.length) (h8' : b9.length ≤ 3) (ha : a.length = b9.length) {k1 : zqos β}
  (h1 : ∀ d ts b11, Q9 d → ts.length ≤ 10 → (∀ t ∈ ts, 0 ≤ t ∧ t ≤ 1000000) → b11.length ≤ 10 → G (k1 d ts b5 b6 b7 b8 b9 b10 b11 b12)) :
  ∀ (m : Nat) (i : Int) (d : Dice) (ts : List Int) (b11 : List Q3l), Q9 d → 0 ≤ i → (b11.length : Int) + i ≤ 10 → ts.length = b11.length → (∀ t ∈ ts, 0 ≤ t ∧ t ≤ 1000000) → i.toNat < m → G (zqpc m k1 i d a ts b5 b6 b7 b8 b9 b10 b11 b12)
 | 0, _, _, _, _, _, _, _, _, _, h => absurd h (Nat.not_lt_zero _)
 | m + 1, i, d, ts, b11, hd, h0, h3, ht, hv, hm => by
  rw [zqpd]
  unfold zqpb
  refine w_d (fun h => ?_) (fun _ => h1 _ _ _ hd (by omega) hv (by omega))
  have e := i64_in (i - 1) (by omega)
  refine Qc (by omega) hd fun x d hx hx1 hd => Qc (by decide) hd fun y d hy hy1 hd => w_i (by have := hx1 (by omega); omega) (Qc (by decide) hd fun z d hz hz1 hd => w_i (by have := hz1 (by decide); simp only [List.length_cons, List.length_nil]; omega) (w_r (by simp only [List.length_singleton]; omega) (w_r (by simp only [List.length_singleton]; omega) ?_)))
  have hy1 := hy1 (by decide)
  exact Qkm h8 h8' ha h1 m _ d _ _ hd (by omega) (by rw [List.length_append, List.length_singleton]; omega) (by rw [List.length_append, List.length_append, ht]; rfl) (Q2f hv (by rw [i64_in ((864000 : Int) + y) (by omega)]; omega)) (by omega)
theorem Qkn {ts : List Int} (hl : ts.length ≤ 10) (hv : ∀ t ∈ ts, 0 ≤ t ∧ t ≤ 1000000) {b4 b8 : List Host} {b5 b9 : List Sync} {b6 b10 : List Q3l} {b7 : List Link} {k1 : zqov β}
  (h1 : ∀ d b11, Q9 d → b11.length ≤ 10 → G (k1 d ts b4 b5 b6 b7 b8 b9 b10 b11)) :
  ∀ (m : Nat) (i : Int) (d : Dice) (b11 : List Link), Q9 d → 0 ≤ i → (b11.length : Int) + i ≤ 10 → i.toNat < m → G (zqpk m k1 i d ts b4 b5 b6 b7 b8 b9 b10 b11)
 | 0, _, _, _, _, _, _, h => absurd h (Nat.not_lt_zero _)
 | m + 1, i, d, b11, hd, h0, h3, hm => by
  rw [zqpl]
  unfold zqpj
  refine w_d (fun h => ?_) (fun _ => h1 _ _ hd (by omega))
  refine w_d (fun h2 => ?_) (fun _ => h1 _ _ hd (by omega))
  have e := i64_in (i - 1) (by omega)
  have go : ∀ d (b11 : List Link), Q9 d → (b11.length : Int) + (i - 1) ≤ 10 → G (zqpk m k1 (IntKind.i64.wrap (i - 1)) d ts b4 b5 b6 b7 b8 b9 b10 b11) := fun d b11 hd hb => by
   rw [e]
   exact Qkn hl hv h1 m _ d _ hd (by omega) hb (by omega)
  refine Qc (by omega) hd fun x d hx hx1 hd => Qc (by omega) hd fun y d hy hy1 hd => ?_
  have hx1 := hx1 (by omega)
  have hy1 := hy1 (by omega)
  unfold zqph
  rw [Q0]
  unfold zqpg
  have vx := hv _ (Q14 (d := (0 : Int)) (show x.toNat < ts.length by omega))
  have vy := hv _ (Q14 (d := (0 : Int)) (show y.toNat < ts.length by omega))
  refine w_nd (fun _ => w_i (by omega) (w_i (by omega) (w_c (fun _ => w_i (by omega) (w_i (by omega) ?_)) (fun _ => go _ _ hd (by omega))))) (fun _ => go _ _ hd (by omega))
  rw [i64_in (ts.getD y.toNat 0 - ts.getD x.toNat 0) (by omega), i64_in (ts.getD y.toNat 0 - ts.getD x.toNat 0 + 1) (by omega)]
  exact Qc (by omega) hd fun z d _ _ hd => w_r (by simp only [List.length_singleton]; omega) (go _ _ hd (by rw [List.length_append, List.length_singleton]; omega))
theorem Qot {d : Dice} (hd : Q9 d) {k : Rec → Dice → List Int → Option β} (hk : ∀ r d' l, Q9 d' → Qkj r → G (k r d' l)) : G (zqpp 5 d k) := by
 unfold zqpp
 rw [Q0]
 unfold zqpo zqp4 zqp9 zqpe zqpm
 simp only [Q0]
 refine Qc (by decide) hd fun x d hx hx1 hd => ?_
 have hx1 := hx1 (by decide)
 rw [i64_in ((1 : Int) + x) (by omega)]
 refine Qkk (fun d a b8 hd h1 h3 ha => ?_) _ _ _ _ _ hd (by omega) (by simp only [List.length_nil]; omega) (by simp only [List.length_nil]; omega) rfl (Q3 (by omega))
 refine Qc (by decide) hd fun y d hy hy1 hd => ?_
 have hy1 := hy1 (by decide)
 refine Qkl h1 h3 ha (fun d b9 hd h9 => ?_) _ _ _ _ hd hy (by simp only [List.length_nil]; omega) (Q3 (by omega))
 rw [i64_in ((5 : Int) + 1) (by decide)]
 refine Qc (by decide) hd fun z d hz hz1 hd => ?_
 have hz1 := hz1 (by decide)
 refine Qkm h1 h3 ha (fun d ts b11 hd ht hv hb => ?_) _ _ _ _ _ hd hz (by simp only [List.length_nil]; omega) rfl (fun _ h => absurd h List.not_mem_nil) (Q3 (by omega))
 refine Qc (by decide) hd fun u d hu hu1 hd => ?_
 have hu1 := hu1 (by decide)
 exact Qkn ht hv (fun d b hd hb2 => hk _ _ _ hd ⟨h1, by show b8.length ≤ 100; omega, by show b9.length ≤ 100; omega, by show b11.length ≤ 100; omega, by show b.length ≤ 100; omega⟩) _ _ _ _ hd hu (by simp only [List.length_nil]; omega) (Q3 (by omega))
theorem Qlx {r : Rec} (hr : Qkj r) {d : Dice} (hd : Q9 d) {k : Rec → Dice → Option β} (hk : ∀ r d', Q9 d' → G (k r d')) : G (zqq0 r d k) := by
 obtain ⟨h0, h1, h2, h3, h4⟩ := hr
 unfold zqq0
 rw [Q0]
 unfold zqpz zqpx
 simp only [Q0]
 unfold zqpw
 refine w_r (by omega) (w_r (by omega) (w_r (by omega) (w_r (by omega) (Qc (by decide) hd fun x d _ _ hd => ?_))))
 refine w_c (fun _ => Q16 ⟨by decide, by decide⟩ hd fun y d _ hd => w_i (by omega) (hk _ _ hd)) (fun _ => ?_)
 refine w_c (fun _ => Qc (by decide) hd fun y d _ _ hd => Qc (by decide) hd fun y d _ _ hd => Qc (by decide) hd fun y d _ _ hd => Qc (by decide) hd fun y d _ _ hd => w_r (by simp only [List.length_singleton]; omega) (hk _ _ hd)) (fun _ => ?_)
 refine w_c (fun _ => Qc (by decide) hd fun y d _ _ hd => Q16 ⟨by decide, by decide⟩ hd fun y d _ hd => w_r (by simp only [List.length_singleton]; omega) (hk _ _ hd)) (fun _ => ?_)
 have p : ∀ t, G (cond t (zq1s 5 d fun y d => zq1s 5 d fun z d => zq2a [-1, 0, 1, 100, 400] d fun u d => cond (decide ((List.length r.2.2.2 + List.length [(IntKind.i64.wrap (y - 1), (z, u))]) * 24 ≤ Q5)) (k (r.1, (r.2.1, (r.2.2.1, r.2.2.2 ++ [(IntKind.i64.wrap (y - 1), (z, u))]))) d) none) (k (r.1, (r.2.1, (r.2.2.1, r.2.2.2))) d)) := fun t =>
  w_c (fun _ => Qc (by decide) hd fun y d _ _ hd => Qc (by decide) hd fun y d _ _ hd => Q16 ⟨by decide, by decide⟩ hd fun y d _ hd => w_r (by simp only [List.length_singleton]; omega) (hk _ _ hd)) (fun _ => hk _ _ hd)
 exact w_c (fun _ => p _) (fun _ => p _)
end
end
end Go.Lift
namespace Go.Lift
open Go.RowKit Go.IntWalk
noncomputable section
set_option linter.unusedVariables false
set_option linter.unusedSimpArgs false
set_option maxRecDepth 10000
abbrev Rg := Int × Int
abbrev rd0 : Rg := (0, 0)
def gcdI (a b : Int) : Int := ((Nat.gcd a.toNat b.toNat : Nat) : Int)
theorem Qdi {a : Int} (ha : 0 ≤ a) : gcdI a 0 = a := by
 unfold gcdI
 rw [show (0 : Int).toNat = 0 from rfl, Nat.gcd_zero_right]
 omega
theorem Qfy {a b : Int} (ha : 0 ≤ a) (hb : 0 < b) : Int.tmod a b = ((a.toNat % b.toNat : Nat) : Int) := by
 obtain ⟨m, rfl⟩ : ∃ m : Nat, a = m := ⟨a.toNat, by omega⟩
 obtain ⟨n, rfl⟩ : ∃ n : Nat, b = n := ⟨b.toNat, by omega⟩
 rfl
theorem Qko {a b : Int} (ha : 0 ≤ a) (hb : 0 < b) : gcdI b (Int.tmod a b) = gcdI a b := by
 rw [Qfy ha hb]
 unfold gcdI
 rw [Int.toNat_natCast, Nat.gcd_comm b.toNat, ← Nat.gcd_rec, Nat.gcd_comm]
theorem Qfz {a b : Int} (hb : 0 < b) : 1 ≤ gcdI a b := by
 have := Nat.gcd_pos_of_pos_right a.toNat (show 0 < b.toNat by omega)
 unfold gcdI
 omega
def newV (num den : Int) : Rg × Int :=
 if -4611686018427387904 ≤ num ∧ num ≤ 4611686018427387904 ∧ 1 ≤ den ∧ den ≤ 4611686018427387904 then ((IntKind.i64.wrap (num.tdiv (gcdI (if num < 0 then IntKind.i64.wrap (0 - num) else num) den)), IntKind.i64.wrap (den.tdiv (gcdI (if num < 0 then IntKind.i64.wrap (0 - num) else num) den))), 0) else ((0, 0), 1)
section
variable {β : Type} {G : Option β → Prop}
theorem Qmc {F : Nat → Int → Int → Option β} {k1 : Int → Option β} (hF : ∀ f a b, F (f + 1) a b = cond (!decide (b = (0 : Int))) (cond (!decide (b = 0)) (F f b (Int.tmod a b)) none) (k1 a)) : ∀ (N : Nat) (a b : Int) (f : Nat), 0 ≤ a → 0 ≤ b → b.toNat ≤ N → N < f → F f a b = k1 (gcdI a b) := by
 intro N
 induction N with
 | zero =>
  intro a b f ha hb hN hf
  obtain ⟨f, rfl⟩ : ∃ f', f = f' + 1 := ⟨f - 1, by omega⟩
  have : b = 0 := by omega
  subst this
  rw [hF, Qdi ha]
  exact Q3f rfl
 | succ N ih =>
  intro a b f ha hb hN hf
  obtain ⟨f, rfl⟩ : ∃ f', f = f' + 1 := ⟨f - 1, by omega⟩
  rw [hF]
  by_cases h0 : b = 0
  ·subst h0
   rw [Qdi ha]
   exact Q3f rfl
  ·have hb0 : 0 < b := by omega
   have h1 := Qfy ha hb0
   have h2 : a.toNat % b.toNat < b.toNat := Nat.mod_lt _ (by omega)
   refine (Q1d h0).trans ?_
   refine (Q1d h0).trans ?_
   refine (ih b (Int.tmod a b) f hb (by omega) (by omega) (by omega)).trans ?_
   rw [Qko ha hb0]
theorem Qoi {a b : Int} (ha : 0 ≤ a) (hb : 0 ≤ b) (hb2 : b ≤ 9223372036854775807) (k : Int → Option β) : zqcr a b k = k (gcdI a b) := by
 unfold zqcr
 rw [Q0]
 unfold zqcq zqco
 rw [Q0]
 exact Qmc (F := fun f a b => zqcm f (fun a => k a) a b) (fun f a b => by rw [zqcn]; rfl) b.toNat a b fuel ha hb (Nat.le_refl _) (Q3 (by omega))
theorem Qnn {a b : Int} (ha : 0 ≤ a) (hb : 0 ≤ b) (hb2 : b ≤ 9223372036854775807) (k : Int → Option β) : zqdb a b k = k (gcdI a b) := by
 unfold zqdb
 rw [Q0]
 unfold zqda zqd8
 rw [Q0]
 exact Qmc (F := fun f a b => zqd6 f (fun a => k a) a b) (fun f a b => by rw [zqd7]; rfl) b.toNat a b fuel ha hb (Nat.le_refl _) (Q3 (by omega))
theorem Qg0 {n : Int} (h : -4611686018427387904 ≤ n ∧ n ≤ 4611686018427387904) : 0 ≤ (if n < 0 then IntKind.i64.wrap (0 - n) else n) := by
 split
 ·rw [i64_in _ (by omega)]; omega
 ·omega
theorem Qkp (n : Int) (k : Bool → Option β) : zqcf n k = k (decide (-4611686018427387904 ≤ n ∧ n ≤ 4611686018427387904)) := by
 unfold zqcf
 rw [Q0]
 unfold zqce
 by_cases h : -4611686018427387904 ≤ n <;> simp [h]
theorem Qip (n : Int) (k : Bool → Option β) : zqcz n k = k (decide (-4611686018427387904 ≤ n ∧ n ≤ 4611686018427387904)) := by
 unfold zqcz
 rw [Q0]
 unfold zqcy
 by_cases h : -4611686018427387904 ≤ n <;> simp [h]
theorem Qno (n : Int) (k : Int → Option β) : zqcv n k = k (if n < 0 then IntKind.i64.wrap (0 - n) else n) := by
 unfold zqcv
 rw [Q0]
 unfold zqcu
 by_cases h : n < 0 <;> simp [h]
theorem Qly (n : Int) (k : Int → Option β) : zqdf n k = k (if n < 0 then IntKind.i64.wrap (0 - n) else n) := by
 unfold zqdf
 rw [Q0]
 unfold zqde
 by_cases h : n < 0 <;> simp [h]
theorem Qkq (num den : Int) (k : Rg → Int → Option β) : zqrd num den k = k (newV num den).1 (newV num den).2 := by
 unfold zqrd
 rw [Q0]
 unfold zqrc newV
 by_cases h1 : den < 1
 ·rw [if_neg (by omega)]
  exact Q8 h1
 refine (Qa h1).trans ?_
 by_cases h2 : (4611686018427387904 : Int) < den
 ·rw [if_neg (by omega)]
  exact Q8 h2
 refine (Qa h2).trans ((Qkp _ _).trans ?_)
 by_cases h3 : -4611686018427387904 ≤ num ∧ num ≤ 4611686018427387904
 ·rw [decide_eq_true h3, if_pos (by omega)]
  have hs := Qg0 h3
  refine c_nt.trans ((Qno _ _).trans ((Qoi hs (by omega) (by omega) _).trans ?_))
  have := Qfz (a := if num < 0 then IntKind.i64.wrap (0 - num) else num) (b := den) (by omega)
  exact (Q1d (by omega)).trans (Q1d (by omega))
 ·rw [decide_eq_false h3, if_neg (by omega)]
  rfl
theorem Qhp (num den : Int) (k : Rg → Int → Option β) : zqrh num den k = k (newV num den).1 (newV num den).2 := by
 unfold zqrh
 rw [Q0]
 unfold zqrg newV
 refine (Qip _ _).trans ?_
 by_cases h3 : -4611686018427387904 ≤ num ∧ num ≤ 4611686018427387904
 ·rw [decide_eq_true h3]
  refine c_nt.trans ?_
  by_cases h1 : den < 1
  ·rw [if_neg (by omega)]
   exact Q8 h1
  refine (Qa h1).trans ?_
  by_cases h2 : (4611686018427387904 : Int) < den
  ·rw [if_neg (by omega)]
   exact Q8 h2
  refine (Qa h2).trans ?_
  rw [if_pos (by omega)]
  have hs := Qg0 h3
  refine (Qly _ _).trans ((Qnn hs (by omega) (by omega) _).trans ?_)
  have := Qfz (a := if num < 0 then IntKind.i64.wrap (0 - num) else num) (b := den) (by omega)
  exact (Q1d (by omega)).trans (Q1d (by omega))
 ·rw [decide_eq_false h3, if_neg (by omega)]
  rfl
def okR (r : Rg) : Bool := inB r.1 0 r.2 && !decide ((1099511627776 : Int) < r.2)
def chk (l : List Rg) : Int := if (256 : Int) < l.length then 5 else if l.all okR then 0 else 8
theorem Qg1 (n lo hi : Int) (k : Bool → Option β) : zq52 n lo hi k = k (inB n lo hi) := by
 unfold zq52
 rw [Q0]
 unfold zq51 inB
 cases decide (lo ≤ n) <;> rfl
theorem Qg2 {l : List Rg} (hl : l.length ≤ 1000) (k : Int → Option β) : zq1dq l k = k (chk l) := by
 unfold zq1dq
 rw [Q0]
 unfold zq1dp chk
 by_cases h : (256 : Int) < l.length
 ·rw [if_pos h]
  exact Q8 h
 refine (Qa h).trans ?_
 rw [if_neg h]
 simp only [zq1d0, zq1cz, zq17u, zq17t, zq17r, Q0]
 refine (Qk (fun f j => zq17p f (fun (t4 : Int) => cond (decide ((0 : Int) ≤ t4)) (k 8) (k 0)) (fun (_ : Unit) => cond (decide ((0 : Int) ≤ -1)) (k 8) (k 0)) l (l.length : Int) j) okR (k 8) (k 0) rd0 l fuel (Q3 (by omega)) (fun f j hj => ?_) (fun f => ?_)).trans ?_
 ·have e1 : IntKind.i64.wrap ((j : Int) + 1) = j + 1 := i64_in _ (by omega)
  rw [zq17q]
  unfold zq17o zqcb
  simp only [Q0]
  unfold zqca
  refine (Q8 (by omega)).trans ((Q6 (by omega)).trans ?_)
  simp only [Int.toNat_natCast, e1]
  refine (Qg1 _ _ _ _).trans ?_
  unfold okR
  have hb : decide ((0 : Int) ≤ (j : Int)) = true := decide_eq_true (by omega)
  cases inB (l.getD j rd0).1 0 (l.getD j rd0).2 with
  | false => simp only [Bool.not_false, cond_true, Bool.false_and, cond_false]; rw [hb]; rfl
  | true =>
   simp only [Bool.not_true, cond_false, Bool.true_and]
   cases decide ((1099511627776 : Int) < (l.getD j rd0).2) with
   | true => simp only [cond_true, Bool.not_true, cond_false]; rw [hb]; rfl
   | false => rfl
 ·rw [zq17q]
  unfold zq17o
  exact (Qa (by omega)).trans rfl
 ·cases l.all okR <;> rfl
theorem Qhq {l : List Rg} (hl : l.length ≤ 1000) (k : Int → Option β) : zqr9 l k = k (chk l) := by
 unfold zqr9
 rw [Q0]
 unfold zqr8 chk
 by_cases h : (256 : Int) < l.length
 ·rw [if_pos h]
  exact Q8 h
 refine (Qa h).trans ?_
 rw [if_neg h]
 unfold zqr6
 rw [Q0]
 refine (Qk (fun f j => zqr4 f (fun t => k t) (fun _ => k 0) l j) okR (k 8) (k 0) rd0 l fuel (Q3 (by omega)) (fun f j hj => ?_) (fun f => ?_)).trans ?_
 ·have e1 : IntKind.i64.wrap ((j : Int) + 1) = j + 1 := i64_in _ (by omega)
  rw [zqr5]
  unfold zqr3
  refine (Q8 (by omega)).trans ((Q6 (by omega)).trans ((Q6 (by omega)).trans ?_))
  simp only [Int.toNat_natCast, e1]
  refine (Qt _ _ _ _).trans ?_
  unfold okR
  cases inB (l.getD j rd0).1 0 (l.getD j rd0).2 with
  | false => rfl
  | true =>
   refine c_nt.trans ((Q6 (by omega)).trans ?_)
   cases decide ((1099511627776 : Int) < (l.getD j rd0).2) <;> rfl
 ·rw [zqr5]
  unfold zqr3
  exact Qa (by omega)
 ·cases l.all okR <;> rfl
def addW (p r : Rg) : Rg := (IntKind.i64.wrap (p.1 + r.1), IntKind.i64.wrap (p.2 + r.2))
def sumV (l : List Rg) : Rg × Int := if chk l = 0 then (l.foldl addW (0, 0), 0) else ((0, 0), chk l)
theorem Qkr {l : List Rg} (hl : l.length ≤ 1000) (k : Rg → Option β) : zq4y l k = k (l.foldl addW (0, 0)) := by
 unfold zq4y
 rw [Q0]
 unfold zq4x zq4v
 rw [Q0]
 refine Q3z (σ := Rg) (fun m i p => zq4t m (fun _ o => k o) l (l.length : Int) i (0, 0) p) addW k rd0 l (0, 0) fuel (Q3 (by omega)) (fun m i p hi => ?_) (fun m p => ?_)
 ·have e1 : IntKind.i64.wrap ((i : Int) + 1) = i + 1 := i64_in _ (by omega)
  rw [zq4u]
  unfold zq4s
  refine (Q8 (by omega)).trans ((Q6 (by omega)).trans ?_)
  rw [e1]
  rfl
 ·rw [zq4u]
  unfold zq4s
  exact Qa (by omega)
theorem Qks {l : List Rg} (hl : l.length ≤ 1000) (k : Rg → Int → Option β) : zq1fx l k = k (sumV l).1 (sumV l).2 := by
 unfold zq1fx
 rw [Q0]
 unfold zq1fw sumV
 refine (Qg2 hl _).trans ?_
 by_cases h : chk l = 0
 ·rw [if_pos h]
  exact (Q3f h).trans (Qkr hl _)
 ·rw [if_neg h]
  exact Q1d h
theorem Qhr {l : List Rg} (hl : l.length ≤ 1000) (k : Rg → Int → Option β) : zq108 l k = k (sumV l).1 (sumV l).2 := by
 unfold zq108
 rw [Q0]
 unfold zq107 sumV
 refine (Qhq hl _).trans ?_
 by_cases h : chk l = 0
 ·rw [if_pos h]
  refine (Q3f h).trans ?_
  unfold zq105
  rw [Q0]
  refine Q3z (σ := Rg) (fun m i p => zq103 m (fun _ o => k o 0) l i (0, 0) p) addW (fun o => k o 0) rd0 l (0, 0) fuel (Q3 (by omega)) (fun m i p hi => ?_) (fun m p => ?_)
  ·have e1 : IntKind.i64.wrap ((i : Int) + 1) = i + 1 := i64_in _ (by omega)
   rw [zq104]
   unfold zq102
   refine (Q8 (by omega)).trans ((Q6 (by omega)).trans ((Q6 (by omega)).trans ?_))
   rw [e1]
   rfl
  ·rw [zq104]
   unfold zq102
   exact Qa (by omega)
 ·rw [if_neg h]
  exact Q1d h
def Q52 (l : List Rg) : Rg × Rg × Int := if (l.length : Int) = 0 then ((0, 0), (0, 0), 7) else if chk l = 0 then ((newV (l.foldl addW (0, 0)).1 l.length).1, (newV (l.foldl addW (0, 0)).2 l.length).1, 0) else ((0, 0), (0, 0), chk l)
theorem Qhs {l : List Rg} (hl : l.length ≤ 1000) (k : Rg → Rg → Int → Option β) : zq1g1 l k = k (Q52 l).1 (Q52 l).2.1 (Q52 l).2.2 := by
 unfold zq1g1
 rw [Q0]
 unfold zq1g0 Q52
 by_cases h0 : (l.length : Int) = 0
 ·rw [if_pos h0]
  exact Q8 h0
 refine (Qa h0).trans ((Qg2 hl _).trans ?_)
 rw [if_neg h0]
 by_cases h : chk l = 0
 ·rw [if_pos h]
  exact (Q3f h).trans ((Qkr hl _).trans ((Qkq _ _ _).trans (Qkq _ _ _)))
 ·rw [if_neg h]
  exact Q1d h
theorem Qlz {l : List Rg} (hl : l.length ≤ 1000) (k : Rg → Rg → Int → Option β) : zq10c l k = k (Q52 l).1 (Q52 l).2.1 (Q52 l).2.2 := by
 unfold zq10c
 rw [Q0]
 unfold zq10b Q52
 by_cases h0 : (l.length : Int) = 0
 ·rw [if_pos h0]
  exact Q8 h0
 refine (Qa h0).trans ((Qhr hl _).trans ?_)
 rw [if_neg h0]
 unfold sumV
 by_cases h : chk l = 0
 ·rw [if_pos h, if_pos h]
  exact (Q3f rfl).trans ((Qhp _ _ _).trans (Qhp _ _ _))
 ·rw [if_neg h, if_neg h]
  exact Q1d h
def lows (l : List Rg) : List Int := l.map (·.1)
def Q2t (l : List Rg) : List Int := l.map (·.2)
theorem Q70 (l : List Int) : (Qh l).Pairwise (fun x y => x ≤ y) := by
 have := List.pairwise_mergeSort (le := fun x y : Int => decide (x ≤ y)) (fun a b c h1 h2 => by simp at *; omega) (fun a b => by simp; omega) l
 exact this.imp fun h => by simpa using h
theorem Q9b (l : List Int) : (Qh l).Perm l := List.mergeSort_perm l _
theorem Q6q {a b : List Int} (hs : a.Pairwise (fun x y => x ≤ y)) (h : a.Perm b) : a = Qh b :=
 List.Perm.eq_of_pairwise (fun x y _ _ h1 h2 => Int.le_antisymm h1 h2) hs (Q70 b) (h.trans (Q9b b).symm)
theorem Q4r (l : List Int) : (Qh l).length = l.length := List.length_mergeSort l
theorem Qm0 (s : List Int) (k : Nat) (n : Int) : (s.take k ++ n :: s.drop k).Perm (n :: s) := by
 have h : (s.take k ++ n :: s.drop k).Perm (n :: (s.take k ++ s.drop k)) := List.perm_middle
 rwa [List.take_append_drop] at h
theorem Qm1 {s : List Int} {i : Nat} (h : i < s.length) : s.getD i 0 = s[i] := by rw [List.getD, List.getElem?_eq_getElem h]; rfl
theorem Qc1 {s : List Int} (hs : s.Pairwise (fun x y => x ≤ y)) {k : Nat} {n : Int} (hk : k ≤ s.length) (h1 : ∀ j, k ≤ j → j < s.length → n < s.getD j 0) (h2 : k = 0 ∨ s.getD (k - 1) 0 ≤ n) : (s.take k ++ n :: s.drop k).Pairwise (fun x y => x ≤ y) := by
 have hget : ∀ j (hj : j < s.length), s.getD j 0 = s[j] := fun j hj => Qm1 hj
 have ha : ∀ a ∈ s.take k, a ≤ n := fun a hm => by
  obtain ⟨j, hj, rfl⟩ := List.getElem_of_mem hm
  rw [List.length_take] at hj
  rw [List.getElem_take]
  rcases h2 with h2 | h2
  ·omega
  ·rw [hget (k - 1) (by omega)] at h2
   rcases Nat.lt_or_ge j (k - 1) with h3 | h3
   ·have := List.pairwise_iff_getElem.1 hs j (k - 1) (by omega) (by omega) h3
    omega
   ·have : j = k - 1 := by omega
    subst this
    exact h2
 have hb : ∀ b ∈ s.drop k, n ≤ b := fun b hm => by
  obtain ⟨j, hj, rfl⟩ := List.getElem_of_mem hm
  rw [List.length_drop] at hj
  rw [List.getElem_drop]
  have := h1 (k + j) (by omega) (by omega)
  rw [hget _ (by omega)] at this
  omega
 refine List.pairwise_append.2 ⟨hs.sublist (List.take_sublist _ _), List.pairwise_cons.2 ⟨hb, hs.sublist (List.drop_sublist _ _)⟩, fun a hm b hm2 => ?_⟩
 rcases List.mem_cons.1 hm2 with rfl | hm2
 ·exact ha a hm
 ·exact Int.le_trans (ha a hm) (hb b hm2)
theorem Qnp {l : List Rg} (hl : l.length ≤ 1000) (k : List Int × List Int → Option β) : zqrl l k = k (Qh (lows l), Qh (Q2t l)) := by
 have key := Q1i (fun i (p : List Int × List Int) => p.1.length = i ∧ p.2.length = i) (fun m i (p : List Int × List Int) => zqdm m (fun _ _ a b => cond (decide (a.length < 4611686018427387904)) (cond (decide (b.length < 4611686018427387904)) (k (Qh a, Qh b)) none) none) l (l.length : Int) i [] [] p.1 p.2)
  (fun p r => (p.1 ++ [r.1], p.2 ++ [r.2])) (fun p => cond (decide (p.1.length < 4611686018427387904)) (cond (decide (p.2.length < 4611686018427387904)) (k (Qh p.1, Qh p.2)) none) none) rd0 l ([], []) fuel (Q3 (by omega)) ⟨rfl, rfl⟩
  (fun i p hi hp => by simp; omega)
  (fun m i p hi hp => by
   have e1 : IntKind.i64.wrap ((i : Int) + 1) = i + 1 := i64_in _ (by omega)
   rw [zqdn]
   unfold zqdl
   simp only [Int.toNat_natCast]
   refine (Q8 (by omega)).trans ?_
   refine (Q6 (by omega)).trans ?_
   refine (Q1c (by simp only [List.length_cons, List.length_nil]; omega)).trans ?_
   refine (Q1c (by simp only [List.length_cons, List.length_nil]; omega)).trans ?_
   rw [e1])
  (fun m p hp => by
   rw [zqdn]
   unfold zqdl
   exact Qa (by omega))
 have hfold : ∀ (l : List Rg) (p : List Int × List Int), l.foldl (fun p r => (p.1 ++ [r.1], p.2 ++ [r.2])) p = (p.1 ++ lows l, p.2 ++ Q2t l) := by
  intro l
  induction l with
  | nil => intro p; simp [lows, Q2t]
  | cons r l ih => intro p; simp [ih, lows, Q2t]
 rw [hfold] at key
 unfold zqrl
 rw [Q0]
 unfold zqrk zqdr
 rw [Q0]
 unfold zqdq zqdo
 rw [Q0]
 refine key.trans ((Q8 (by simp [lows]; omega)).trans ((Q8 (by simp [Q2t]; omega)).trans ?_))
 rfl
theorem Qdj {l : List Int} (hs : l.Pairwise (fun x y => x ≤ y)) {x : Int} {k1 : zq59 β} (h1 : ∀ j : Nat, j ≤ l.length → (l.take j ++ x :: l.drop j).Pairwise (fun x y => x ≤ y) → G (k1 l x (j : Int))) :
  ∀ (m j : Nat), j ≤ l.length → l.length ≤ 1000 → (∀ i, j ≤ i → i < l.length → x < l.getD i 0) → j < m → G (zq5d m k1 l x (j : Int))
 | 0, _, _, _, _, h => absurd h (Nat.not_lt_zero _)
 | m + 1, j, hj, hl, ha, hm => by
  rw [zq5e]
  unfold zq5c
  refine w_d (fun h => ?_) (fun h => h1 j hj (Qc1 hs hj ha (Or.inl (by omega))))
  have e : IntKind.i64.wrap ((j : Int) - 1) = ((j - 1 : Nat) : Int) := (i64_in _ (by omega)).trans (by omega)
  rw [e]
  refine w_i (by omega) ?_
  rw [Int.toNat_natCast]
  refine w_d (fun h2 => ?_) (fun h2 => h1 j hj (Qc1 hs hj ha (Or.inr (by omega))))
  exact Qdj hs h1 m (j - 1) (by omega) hl (fun i h3 h4 => by
   by_cases h5 : i = j - 1
   ·rw [h5]; exact h2
   ·exact ha i (by omega) h4) (by omega)
theorem Qg3 {l : List Int} (hs : l.Pairwise (fun x y => x ≤ y)) (hl : l.length ≤ 1000) {x : Int} {k : List Int → Option β} (hk : ∀ o : List Int, o.Pairwise (fun x y => x ≤ y) → o.Perm (x :: l) → G (k o)) : G (zq5i l x k) := by
 unfold zq5i
 rw [Q0]
 unfold zq5h zq5f
 rw [Q0]
 refine Qdj hs (fun j hj hp => ?_) fuel l.length (Nat.le_refl _) hl (fun i h3 h4 => by omega) (Q3 (by omega))
 have e0 : (0 : Int).toNat = 0 := rfl
 have e : (l.drop ((j : Int).toNat)).length ≤ l.length := by rw [List.length_drop]; omega
 rw [e0, Int.toNat_natCast, Int.toNat_natCast, List.drop_zero, List.take_length]
 have h2 : (l.take j).length ≤ 1000 := by rw [List.length_take]; omega
 refine w_e (c_p3 (by omega) (by omega) (by omega)) (w_r (by omega) (w_r (by simp only [List.length_singleton]; omega) (w_e (c_p3 (by omega) (by omega) (by omega)) (w_r (by simp only [List.length_append, List.length_singleton, List.length_drop]; omega) ?_))))
 rw [List.append_assoc]
 exact hk _ hp (Qm0 l j x)
theorem Qg4 {l : List Rg} (hl : l.length ≤ 1000) {num den : Int} {t : Rg} {k1 : zq10g β} (h1 : G (k1 l num den t (Qh (lows l)) (Qh (Q2t l)))) :
  ∀ (m i : Nat) (a b : List Int), i ≤ l.length → a = Qh (lows (l.take i)) → b = Qh (Q2t (l.take i)) → l.length - i < m → G (zq10k m k1 l num den (i : Int) t a b)
 | 0, _, _, _, _, _, _, h => absurd h (Nat.not_lt_zero _)
 | m + 1, i, a, b, h0, ha, hb, hm => by
  rw [zq10l]
  unfold zq10j
  refine w_d (fun h => ?_) (fun h => ?_)
  ·have e := i64_in ((i : Int) + 1) (by omega)
   have hi : i < l.length := by omega
   have hla : a.length ≤ 1000 := by rw [ha, Q4r]; simp only [lows, List.length_map, List.length_take]; omega
   have hlb : b.length ≤ 1000 := by rw [hb, Q4r]; simp only [Q2t, List.length_map, List.length_take]; omega
   refine w_i (by omega) (Qg3 (by rw [ha]; exact Q70 _) hla fun o hs hp => w_i (by omega) (Qg3 (by rw [hb]; exact Q70 _) hlb fun o2 hs2 hp2 => ?_))
   rw [Int.toNat_natCast] at hp hp2
   have et : l.take (i + 1) = l.take i ++ [l.getD i rd0] := Qd5 hi _
   show G (zq10k m k1 l num den (IntKind.i64.wrap ((i : Int) + 1)) t o o2)
   rw [e]
   refine Qg4 hl h1 m (i + 1) o o2 (by omega) (Q6q hs (hp.trans ?_)) (Q6q hs2 (hp2.trans ?_)) (by omega)
   ·rw [et, lows, List.map_append, ha]
    exact ((Q9b _).cons _).trans (List.perm_append_comm (l₁ := [(l.getD i rd0).1]))
   ·rw [et, Q2t, List.map_append, hb]
    exact ((Q9b _).cons _).trans (List.perm_append_comm (l₁ := [(l.getD i rd0).2]))
  ·have : i = l.length := by omega
   subst this
   rw [List.take_length] at ha hb
   rw [ha, hb]
   exact h1
def Q3a (n : Nat) (num den : Int) : Int := if IntKind.i64.wrap (Int.tdiv (IntKind.i64.wrap (IntKind.i64.wrap (IntKind.i64.wrap (num * (n : Int)) + den) - 1)) den) > 1 then IntKind.i64.wrap (Int.tdiv (IntKind.i64.wrap (IntKind.i64.wrap (IntKind.i64.wrap (num * (n : Int)) + den) - 1)) den) else 1
theorem Qht {n : Nat} (h0 : 1 ≤ n) (hn : n ≤ 1000) {num den : Int} (hd : 1 ≤ den ∧ den ≤ 1000) (h : 0 ≤ num ∧ num ≤ den) : 1 ≤ Q3a n num den ∧ Q3a n num den ≤ n := by
 have b1 : 0 ≤ num * (n : Int) ∧ num * (n : Int) ≤ den * (n : Int) := ⟨Int.mul_nonneg h.1 (by omega), Int.mul_le_mul_of_nonneg_right h.2 (by omega)⟩
 have b2 : den * (n : Int) ≤ 1000 * 1000 := Int.mul_le_mul hd.2 (by omega) (by omega) (by omega)
 have b3 : 0 ≤ Int.tdiv (num * (n : Int) + den - 1) den ∧ Int.tdiv (num * (n : Int) + den - 1) den ≤ n := by
  rw [Int.tdiv_eq_ediv_of_nonneg (by omega)]
  refine ⟨Int.ediv_nonneg (by omega) (by omega), ?_⟩
  refine Int.le_of_lt_add_one ((Int.ediv_lt_iff_lt_mul (by omega)).2 ?_)
  have : ((n : Int) + 1) * den = den * n + den := by rw [Int.add_mul, Int.mul_comm]; omega
  omega
 unfold Q3a
 rw [i64_in (num * (n : Int)) (by omega), i64_in (num * (n : Int) + den) (by omega), i64_in (num * (n : Int) + den - 1) (by omega), i64_in (Int.tdiv (num * (n : Int) + den - 1) den) (by omega)]
 split <;> omega
def Q6r (l : List Rg) (num den : Int) : Rg × Int :=
 if (l.length : Int) = 0 then ((0, 0), 7) else if chk l = 0 then (if inB den 1 1000 && inB num 0 den then (((Qh (lows l)).getD (IntKind.i64.wrap (Q3a l.length num den - 1)).toNat 0, (Qh (Q2t l)).getD (IntKind.i64.wrap (Q3a l.length num den - 1)).toNat 0), 0) else ((0, 0), 1)) else ((0, 0), chk l)
theorem Qhu {l : List Rg} (hl : l.length ≤ 1000) {num den : Int} (k : Rg → Int → Option β) : zq1g5 l num den k = k (Q6r l num den).1 (Q6r l num den).2 := by
 unfold zq1g5
 rw [Q0]
 unfold zq1g4 Q6r
 by_cases h0 : (l.length : Int) = 0
 ·rw [if_pos h0]
  exact Q8 h0
 refine (Qa h0).trans ((Qg2 hl _).trans ?_)
 rw [if_neg h0]
 by_cases h : chk l = 0
 rotate_left
 ·rw [if_neg h]
  exact Q1d h
 rw [if_pos h]
 refine (Q3f h).trans ((Qg1 _ _ _ _).trans ?_)
 cases h1 : inB den 1 1000 with
 | false => rfl
 | true =>
  refine c_nt.trans ((Qg1 _ _ _ _).trans ?_)
  cases h2 : inB num 0 den with
  | false => rfl
  | true =>
   have hd := Q2y.1 h1
   have hr := Qht (n := l.length) (by omega) hl hd (Q2y.1 h2)
   have e := i64_in (Q3a l.length num den - 1) (by omega)
   refine c_nt.trans ((Q1d (by omega)).trans ((Qnp hl _).trans ?_))
   show cond (decide (0 ≤ IntKind.i64.wrap (Q3a l.length num den - 1)) && decide (IntKind.i64.wrap (Q3a l.length num den - 1) < ((Qh (lows l)).length : Int))) (cond (decide (0 ≤ IntKind.i64.wrap (Q3a l.length num den - 1)) && decide (IntKind.i64.wrap (Q3a l.length num den - 1) < ((Qh (Q2t l)).length : Int))) _ none) none = _
   exact (Q6 (by rw [e, Q4r, lows, List.length_map]; omega)).trans (Q6 (by rw [e, Q4r, Q2t, List.length_map]; omega))
theorem Qnq {l : List Rg} (hl : l.length ≤ 1000) {num den : Int} {k : Rg → Int → Option β} (hk : G (k (Q6r l num den).1 (Q6r l num den).2)) : G (zq10p l num den k) := by
 unfold Q6r at hk
 unfold zq10p
 rw [Q0]
 unfold zq10o
 refine w_d (fun h0 => by rw [if_pos h0] at hk; exact hk) (fun h0 => w_e (Qhq hl _) (w_nd (fun h => by rw [if_neg h0, if_neg h] at hk; exact hk) (fun h => ?_)))
 rw [if_neg h0, if_pos h] at hk
 refine w_e (Qt _ _ _ _) (w_nc (fun h1 => by rw [h1] at hk; exact hk) (fun h1 => w_e (Qt _ _ _ _) (w_nc (fun h2 => by rw [h1, h2] at hk; exact hk) (fun h2 => ?_))))
 rw [h1, h2] at hk
 have hd := Q2y.1 h1
 have hr := Qht (n := l.length) (by omega) hl hd (Q2y.1 h2)
 have e := i64_in (Q3a l.length num den - 1) (by omega)
 unfold zq10m
 rw [Q0]
 refine Qg4 hl ?_ fuel 0 [] [] (Nat.zero_le _) (by simp [lows, Qh]) (by simp [Q2t, Qh]) (Q3 (by omega))
 refine w_z (by omega) ?_
 have ek : (if (1 : Int) > IntKind.i64.wrap (Int.tdiv (IntKind.i64.wrap (IntKind.i64.wrap (IntKind.i64.wrap (num * (l.length : Int)) + den) - 1)) den) then (1 : Int) else IntKind.i64.wrap (Int.tdiv (IntKind.i64.wrap (IntKind.i64.wrap (IntKind.i64.wrap (num * (l.length : Int)) + den) - 1)) den)) = Q3a l.length num den := by
  unfold Q3a
  split <;> split <;> omega
 rw [ek]
 exact w_i (by rw [e, Q4r, lows, List.length_map]; omega) (w_i (by rw [e, Q4r, Q2t, List.length_map]; omega) hk)
def witF (limit : Int) (s : Int × Int) (x : zqu) : Int × Int := if x.2.1.2 < 0 then s else (if x.2.1.2 ≤ limit then IntKind.i64.wrap (s.1 + 1) else s.1, if x.2.1.1 ≤ limit then IntKind.i64.wrap (s.2 + 1) else s.2)
abbrev rv0 : zqu := ((0 : Int), (((0 : Int), (0 : Int)), (((0 : Int), (0 : Int)), (((0 : Int), (0 : Int)), ((0 : Int), ((0 : Int), (0 : Int)))))))
theorem Qkt {l : List zqu} (hl : l.length ≤ 1000) (limit : Int) (k : Int → Int → Option β) : zq2s l limit k = k (l.foldl (witF limit) (0, 0)).1 (l.foldl (witF limit) (0, 0)).2 := by
 unfold zq2s
 rw [Q0]
 unfold zq2r zq2p
 rw [Q0]
 refine Q3z (σ := Int × Int) (fun m i s => zq2n m (fun a b => k a b) limit s.1 s.2 l (l.length : Int) i) (witF limit) (fun s => k s.1 s.2) rv0 l (0, 0) fuel (Q3 (by omega)) (fun m i s hi => ?_) (fun m s => ?_)
 ·have e1 : IntKind.i64.wrap ((i : Int) + 1) = i + 1 := i64_in _ (by omega)
  rw [zq2o]
  unfold zq2m zq2k
  simp only [Q0]
  unfold zq2j
  refine (Q8 (by omega)).trans ((Q6 (by omega)).trans ?_)
  rw [Int.toNat_natCast, e1]
  unfold witF
  obtain ⟨x, hx⟩ : ∃ x, l.getD i rv0 = x := ⟨_, rfl⟩
  simp only [hx]
  by_cases a : x.2.1.2 < 0 <;> by_cases b : x.2.1.2 ≤ limit <;> by_cases c : x.2.1.1 ≤ limit <;> simp [a, b, c, e1]
 ·rw [zq2o]
  unfold zq2m
  exact Qa (by omega)
theorem Qiq {l : List zqu} (hl : l.length ≤ 1000) (limit : Int) (k : Int → Int → Option β) : zq3a l limit k = k (l.foldl (witF limit) (0, 0)).1 (l.foldl (witF limit) (0, 0)).2 := by
 unfold zq3a
 rw [Q0]
 unfold zq39 zq37
 rw [Q0]
 refine Q3z (σ := Int × Int) (fun m i s => zq35 m (fun a b => k a b) l limit s.1 s.2 i) (witF limit) (fun s => k s.1 s.2) rv0 l (0, 0) fuel (Q3 (by omega)) (fun m i s hi => ?_) (fun m s => ?_)
 ·have e1 : IntKind.i64.wrap ((i : Int) + 1) = i + 1 := i64_in _ (by omega)
  have hb : (decide (0 ≤ (i : Int)) && decide ((i : Int) < (l.length : Int))) = true := by simp; omega
  rw [zq36]
  unfold zq34 zq32
  simp only [Q0]
  unfold zq31
  refine (Q8 (by omega)).trans ?_
  simp only [hb, cond_true, Int.toNat_natCast, e1]
  unfold witF
  obtain ⟨x, hx⟩ : ∃ x, l.getD i rv0 = x := ⟨_, rfl⟩
  simp only [hx]
  by_cases a : x.2.1.2 < 0 <;> by_cases b : x.2.1.2 ≤ limit <;> by_cases c : x.2.1.1 ≤ limit <;> simp [a, b, c, e1]
 ·rw [zq36]
  unfold zq34
  exact Qa (by omega)
theorem Qdk {k1 : zq1w β} (h1 : ∀ d l x, Q9 d → l.length ≤ 10 → G (k1 d l x)) :
  ∀ (m : Nat) (i : Int) (d : Dice) (l : List Rg) (x : List Int), Q9 d → 0 ≤ i → (l.length : Int) + i ≤ 10 → x.length = l.length → i.toNat < m → G (zq20 m k1 i d l x)
 | 0, _, _, _, _, _, _, _, _, h => absurd h (Nat.not_lt_zero _)
 | m + 1, i, d, l, x, hd, h0, hl, hx, hm => by
  rw [zq21]
  unfold zq1z
  refine w_d (fun h => ?_) (fun _ => h1 _ _ _ hd (by omega))
  have e := i64_in (i - 1) (by omega)
  refine Qc (by decide) hd fun _ d _ _ hd => Qc (by decide) hd fun _ d _ _ hd => Qc (by decide) hd fun _ d _ _ hd => w_r (by simp only [List.length_singleton]; omega) (w_r (by simp only [List.length_singleton]; omega) ?_)
  exact Qdk h1 m _ d _ _ hd (by omega) (by rw [List.length_append, List.length_singleton]; omega) (by rw [List.length_append, List.length_append, hx]; rfl) (by omega)
theorem Qm2 {d : Dice} (hd : Q9 d) {k : Dice → List Rg → List Int → Option β} (hk : ∀ d l x, Q9 d → l.length ≤ 10 → G (k d l x)) : G (zq25 d k) := by
 unfold zq25
 rw [Q0]
 unfold zq24 zq22
 rw [Q0]
 refine Qc (by decide) hd fun n d h0 hn hd => ?_
 have hn := hn (by decide)
 rw [i64_in ((1 : Int) + n) (by omega)]
 exact Qdk (fun d l x hd hl => hk _ _ _ hd hl) fuel _ d [] [] hd (by omega) (by simp only [List.length_nil]; omega) rfl (Q3 (by omega))
theorem Qoj (k : Bool → Option β) : zq1i3 k = k true := by
 have c : chk [(1, 3), (2, 2)] = 0 := by decide
 have s : sumV [(1, 3), (2, 2)] = ((3, 5), 0) := by unfold sumV; rw [if_pos c]; decide
 have m : Q52 [(1, 3), (2, 2)] = ((3, 2), (5, 2), 0) := by unfold Q52; rw [if_neg (by decide), if_pos c]; decide
 have r : Q6r [(1, 3), (2, 2)] 1 2 = ((1, 2), 0) := by
  have h1 : Qh (lows [(1, 3), (2, 2)]) = [1, 2] := (Q6q (by decide) (List.Perm.refl _)).symm
  have h2 : Qh (Q2t [(1, 3), (2, 2)]) = [2, 3] := (Q6q (by decide) (List.Perm.swap _ _ _)).symm
  unfold Q6r
  rw [if_neg (by decide), if_pos c, h1, h2]
  decide
 unfold zq1i3
 rw [Q0]
 unfold zq1i2
 refine (Qks (by decide) _).trans ((Qhs (by decide) _).trans ((Qhu (by decide) _).trans ?_))
 rw [s, m, r]
 rfl
end
end
end Go.Lift
