/- Records of the dice and their order; the example of the chapter. -/
import Derived.Test.YtamnjokpncjbfaaFn2
import Derived.Test.YtamnjokpncjbfaaLBase
import Derived.Test.YtamnjokpncjbfaaLMat
import Derived.Test.YtamnjokpncjbfaaLClock
import Derived.Test.YtamnjokpncjbfaaLDice
import Derived.Test.YtamnjokpncjbfaaLRecord
import Derived.Test.YtamnjokpncjbfaaLWhen
import Derived.Test.YtamnjokpncjbfaaLClose
import Derived.Test.YtamnjokpncjbfaaLValid
import Derived.Test.YtamnjokpncjbfaaLDirect
import Derived.Test.YtamnjokpncjbfaaLClosure
import Derived.Test.YtamnjokpncjbfaaLClosure2
import Derived.Test.YtamnjokpncjbfaaLClosure3
import Derived.Test.YtamnjokpncjbfaaLCons
import Derived.Test.YtamnjokpncjbfaaLOrder
namespace Go.Lift
open Go.RowKit Go.IntWalk
noncomputable section
set_option linter.unusedVariables false
set_option linter.unusedSimpArgs false
set_option maxRecDepth 10000

/-- A loop that only looks and always goes on. -/
theorem pass_loop {β : Type} (n : Nat) (F : Nat → Int → Option β) (K : Option β) (N : Nat) (hn : n < N)
    (h1 : ∀ (m i : Nat), i < n → F (m + 1) (i : Int) = F m ((i : Int) + 1))
    (h2 : ∀ (m : Nat), F (m + 1) (n : Int) = K) : F N 0 = K :=
  range_fold' (σ := Unit) n (fun _ _ => True) (fun m i _ => F m i) (fun s _ => s) (fun _ => K) () N hn trivial (fun _ _ _ _ => trivial) (fun m i _ hi _ => h1 m i hi) (fun m _ _ => h2 m)

theorem ClosedR.matB {r : Rec} {m : Mat} (h : ClosedR r m) (hn : nE r ≤ 7) : MatB (nE r) m :=
  ⟨h.ok.sq, by omega, fun i j hi hj => by have := h.ok.lo i j hi hj; have := h.ok.hi i j hi hj; omega⟩

/-- The true times as a solution. -/
def xOf (times : List Int) (j : Nat) : Int := if j = 0 then 0 else times.getD (j - 1) 0
theorem xOf_zero (times : List Int) : xOf times 0 = 0 := rfl
theorem xOf_succ (times : List Int) (j : Nat) : xOf times (j + 1) = times.getD j 0 := by unfold xOf; rw [if_neg (by omega)]; rfl

section
variable {n : Int} {r : Rec} {ahead times : List Int}
theorem RecOk.nE_le (h : RecOk n r ahead times) : (nE r : Int) ≤ n := h.fewE
theorem RecOk.evOk (h : RecOk n r ahead times) {i : Nat} (hi : i < nE r) : EventOk r.1.length ahead (evAt r i) (times.getD i 0) := h.events i hi

theorem RecOk.whenAt (h : RecOk n r ahead times) (hn : n ≤ 40) {i : Nat} (hi : i < nE r) : (whenAt r i).2 = true ∧ (whenAt r i).1.1 ≤ times.getD i 0 ∧ times.getD i 0 ≤ (whenAt r i).1.2 := by
  obtain ⟨a1, a2, a3, a4, a5⟩ := h.evOk hi
  have hb := ahead_bd h.hosts (evAt r i).1.toNat
  have e := h.when? hn (host := (evAt r i).1) (c := (evAt r i).2.1) ⟨a1, a2⟩ (by omega)
  have t := h.when_true (host := (evAt r i).1) (c := (evAt r i).2.1) ⟨a1, a2⟩ (by omega)
  unfold Go.Lift.whenAt
  rw [e]
  refine ⟨rfl, ?_, ?_⟩ <;> simp only <;> omega

theorem RecOk.whens (h : RecOk n r ahead times) (hn : n ≤ 40) : whensOk r = true := whensOk_iff.2 fun i hi => (h.whenAt hn hi).1

theorem RecOk.solR (h : RecOk n r ahead times) (hn : n ≤ 40) : SolR r (xOf times) := by
  refine ⟨fun i hi => ?_, fun i j hi hj hij hh hc => ?_, fun l hl => ?_⟩
  · have := h.whenAt hn hi
    rw [xOf_succ, xOf_zero]
    omega
  · obtain ⟨a1, a2, a3, a4, a5⟩ := h.evOk hi
    obtain ⟨b1, b2, b3, b4, b5⟩ := h.evOk hj
    rw [xOf_succ, xOf_succ]
    rw [← hh] at b5
    have hd : 0 ≤ driftAt r (evAt r i).1 ∧ driftAt r (evAt r i).1 ≤ 500000 := h.drift_ok _
    have := elapsed_le hd (d := (evAt r j).2.1 - (evAt r i).2.1) (by omega)
    omega
  · have := h.links l hl
    unfold LinkOk at this
    rw [xOf_succ, xOf_succ]
    omega

theorem RecOk.closed (h : RecOk n r ahead times) (hn : n ≤ 7) : ∃ m, ClosedR r m := by
  have := h.nE_le
  exact closed_some (h.valid (by omega)) (h.whens (by omega)) (by omega) (h.solR (by omega))
end

section
variable {β : Type}
theorem c_nt {a b : Option β} : cond (!true) a b = b := rfl
theorem c_nf {a b : Option β} : cond (!false) a b = a := rfl

theorem When_some {r : Rec} {m : Mat} (he : closedW r = some m) (h : MatB (nE r) m) (k : Bool → List (Int × Int) → Option β) : order_When r k = k true (whensN (nE r) m) := by
  refine (When_eq h.small (fun m' he' => ?_) _).trans ?_
  · rw [he] at he'
    cases he'
    exact h
  · rw [he]

theorem Consistent_some {r : Rec} {m : Mat} (he : closedW r = some m) (h : MatB (nE r) m) (k : Bool → Option β) : order_Consistent r k = k true := by
  refine (consistent_eq h.small _).trans ?_
  rw [he]
  rfl

/-- The loops of Open. -/
def openL (n : Nat) (m : Mat) (a : Nat) : List (Int × Int) := ((List.range' (a + 1) (n - (a + 1))).filter fun b => opn m a b).map fun (b : Nat) => ((a : Int), (b : Int))

theorem open_p1 {n : Nat} {m : Mat} (h : MatB n m) (k1 : order_Open_p1_K1 β) {a : Nat} (ha : a < n) (r : List Host) (r2 : List Sync) (r3 : List Event) (r4 : List Link) (hr : r3.length = n) (t15 t16 : Int) (out : List (Int × Int)) (ho : out.length ≤ 100000) :
    order_Open_p1 k1 m true (a : Int) ((a : Int) + 1) t15 t16 r r2 r3 r4 out = k1 m true t15 t16 r r2 r3 r4 (out ++ openL n m a) := by
  have hs := h.small
  have key : ∀ (c b f : Nat) (s : List (Int × Int)), b + c = n → c < f → s.length + c ≤ 100100 →
      order_Open_p1_n f k1 m true (a : Int) (b : Int) t15 t16 r r2 r3 r4 s = k1 m true t15 t16 r r2 r3 r4 (s ++ ((List.range' b c).filter fun b => opn m a b).map fun (b : Nat) => ((a : Int), (b : Int))) := by
    intro c
    induction c with
    | zero =>
      intro b f s hb hf hs'
      obtain ⟨f, rfl⟩ : ∃ m, f = m + 1 := ⟨f - 1, by omega⟩
      rw [order_Open_p1_step]
      unfold order_Open_p1_s
      refine (c_neg (by omega)).trans ?_
      simp
    | succ c ih =>
      intro b f s hb hf hs'
      obtain ⟨f, rfl⟩ : ∃ m, f = m + 1 := ⟨f - 1, by omega⟩
      have e1 : IntKind.i64.wrap ((b : Int) + 1) = ((b + 1 : Nat) : Int) := i64_in _ (by omega)
      rw [order_Open_p1_step]
      unfold order_Open_p1_s
      refine (c_pos (by omega)).trans ?_
      simp only [cond_true, e1]
      refine (open_eq h ha (by omega) _).trans ?_
      rw [List.range'_succ, List.filter_cons]
      cases ho : opn m a b with
      | true =>
        simp only [cond_true, if_true, List.map_cons]
        refine (c_room (by simp only [List.length_cons, List.length_nil]; omega)).trans ?_
        refine (ih (b + 1) f _ (by omega) (by omega) (by simp only [List.length_append, List.length_cons, List.length_nil]; omega)).trans ?_
        rw [List.append_assoc]
        rfl
      | false => exact ih (b + 1) f _ (by omega) (by omega) (by omega)
  unfold order_Open_p1
  have := key (n - (a + 1)) (a + 1) fuel out (by omega) (lt_fuel (by omega)) (by omega)
  rw [show ((a : Int) + 1) = ((a + 1 : Nat) : Int) by omega, this]
  rfl

def openW (n : Nat) (m : Mat) : List (Int × Int) := (List.range n).flatMap (openL n m)

theorem openL_len (n : Nat) (m : Mat) (a : Nat) : (openL n m a).length ≤ n := by
  unfold openL
  rw [List.length_map]
  have := List.length_filter_le (fun b => opn m a b) (List.range' (a + 1) (n - (a + 1)))
  rw [List.length_range'] at this
  omega

theorem Open_eq {r : Rec} {m : Mat} (he : closedW r = some m) (h : MatB (nE r) m) (k : List (Int × Int) → Option β) : order_Open r k = k (openW (nE r) m) := by
  have hs := h.small
  unfold order_Open order_Open_s
  refine (closed_eq hs _).trans ?_
  rw [he]
  simp only []
  have key := range_fold' (nE r) (fun i (s : List (Int × Int)) => s.length ≤ 100 * i) (fun f j s => order_Open_p2_n f (fun out => k out) m true (r.2.2.1.length : Int) j r.1 r.2.1 r.2.2.1 r.2.2.2 s)
    (fun s i => s ++ openL (nE r) m i) (fun s => k s) [] fuel (lt_fuel (by omega)) (by simp)
    (fun i s hi hs => by have := openL_len (nE r) m i; rw [List.length_append]; omega)
    (fun f i s hi hs' => by
      have hi' := hi
      unfold nE at hi'
      have e1 : IntKind.i64.wrap ((i : Int) + 1) = i + 1 := i64_in _ (by omega)
      rw [order_Open_p2_step]
      unfold order_Open_p2_s
      refine (c_pos (by omega)).trans ?_
      simp only [e1]
      refine (open_p1 h _ hi _ _ _ _ rfl _ _ s (by omega)).trans ?_
      simp only [e1])
    (fun f s hs => by
      rw [order_Open_p2_step]
      unfold order_Open_p2_s
      exact c_neg (by unfold nE; omega))
  unfold order_Open_p2
  rw [key, foldl_flat]
  rfl

theorem Open_none {r : Rec} (he : closedW r = none) (hE : nE r ≤ 100) (k : List (Int × Int) → Option β) : order_Open r k = k [] := by
  unfold order_Open order_Open_s
  refine (closed_eq hE _).trans ?_
  rw [he]
  simp only []
  have key := pass_loop (nE r) (fun f j => order_Open_p2_n f (fun out => k out) [] false (r.2.2.1.length : Int) j r.1 r.2.1 r.2.2.1 r.2.2.2 []) (k []) fuel (lt_fuel (by omega))
    (fun f i hi => by
      have hi' := hi
      unfold nE at hi'
      have e1 : IntKind.i64.wrap ((i : Int) + 1) = i + 1 := i64_in _ (by unfold nE at hE; omega)
      rw [order_Open_p2_step]
      unfold order_Open_p2_s
      refine (c_pos (by omega)).trans ?_
      simp only [e1]
      have : order_Open_p1 (fun (m2 : Mat) ok2 t152 t162 r_5 r_6 r_7 r_8 out2 => order_Open_p2_n f (fun out => k out) m2 ok2 t152 (IntKind.i64.wrap (t162 + 1)) r_5 r_6 r_7 r_8 out2) ([] : Mat) false (i : Int) ((i : Int) + 1) (r.2.2.1.length : Int) (i : Int) r.1 r.2.1 r.2.2.1 r.2.2.2 [] =
          order_Open_p2_n f (fun out => k out) [] false (r.2.2.1.length : Int) (IntKind.i64.wrap ((i : Int) + 1)) r.1 r.2.1 r.2.2.1 r.2.2.2 [] := by
        unfold order_Open_p1
        rw [show fuel = (fuel - 1) + 1 by decide, order_Open_p1_step]
        unfold order_Open_p1_s
        cases decide ((i : Int) + 1 < (r.2.2.1.length : Int)) <;> rfl
      refine this.trans ?_
      rw [e1])
    (fun f => by
      rw [order_Open_p2_step]
      unfold order_Open_p2_s
      exact c_neg (by unfold nE; omega))
  unfold order_Open_p2
  exact key
end

section
variable {β : Type}
theorem sane40_eq (k : Bool → Option β) : law40_sane k = k true := by
  kernel_rfl
end
end
end Go.Lift
