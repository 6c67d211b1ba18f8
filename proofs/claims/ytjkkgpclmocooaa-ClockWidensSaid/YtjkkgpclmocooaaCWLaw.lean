/- ClockWidens in plain Lean: the functional form answers true at every four numbers of kind uint32; and the specs of what it calls. -/
import Derived.Test.YtjkkgpclmocooaaFnCW
import Derived.Test.YtjkkgpclmocooaaLiftV
import Derived.IntWalk
namespace Go.Lift
open Go.Proofs Go.RowKit Go.IntWalk
set_option linter.unusedVariables false
noncomputable section

def inN (n low high : Int) : Bool := decide (low ≤ n) && decide (n ≤ high)
def N63 {β : Type} (n low high : Int) (k : Bool → Option β) : Option β := k (inN n low high)
def N64 {β : Type} (n : Int) (k : Bool → Option β) : Option β := k (inN n 0 8589934592)
def elapsed (drift d : Int) : Int × Int :=
  bif inN drift 0 500000 && inN d 0 8589934592 then (d * 1000000 / (1000000 + drift), (d * 1000000 + (1000000 - drift) - 1) / (1000000 - drift)) else (0, 0)
def N16 {β : Type} (drift d : Int) (k : Int → Int → Option β) : Option β := k (elapsed drift d).1 (elapsed drift d).2
def N17 {β : Type} (k : Bool → Option β) : Option β := k true

theorem N63_eq {β : Type} (n low high : Int) (k : Bool → Option β) : f63_c n low high k = N63 n low high k := by
  simp only [f63_c, f63_s, N63, inN]
  cases decide (low ≤ n) <;> rfl

theorem inN_true {n low high : Int} (h : inN n low high = true) : low ≤ n ∧ n ≤ high := by
  simpa [inN] using h
theorem inN_mk {n low high : Int} (h : low ≤ n ∧ n ≤ high) : inN n low high = true := by
  simpa [inN] using h

theorem N16_eq {β : Type} (drift d : Int) (k : Int → Int → Option β) : f16_c N63 N64 f65_c drift d k = N16 drift d k := by
  simp only [f16_c, f16_s, N63, N64, N16, elapsed, f65_c, f65_s]
  cases h1 : inN drift 0 500000 with
  | false => rfl
  | true =>
    cases h2 : inN d 0 8589934592 with
    | false => rfl
    | true =>
      have h1 := inN_true h1
      have h2 := inN_true h2
      simp only [Bool.not_true, cond_false, Bool.and_true, cond_true]
      have e1 : IntKind.i64.wrap (1000000 + drift) = 1000000 + drift := i64_in _ (by omega)
      have e2 : IntKind.i64.wrap (1000000 - drift) = 1000000 - drift := i64_in _ (by omega)
      have e3 : IntKind.i64.wrap (d * 1000000) = d * 1000000 := i64_in _ (by omega)
      rw [e1, e2, e3]
      have e4 : IntKind.i64.wrap (d * 1000000 + (1000000 - drift)) = d * 1000000 + (1000000 - drift) := i64_in _ (by omega)
      rw [e4]
      have e5 : IntKind.i64.wrap (d * 1000000 + (1000000 - drift) - 1) = d * 1000000 + (1000000 - drift) - 1 := i64_in _ (by omega)
      rw [e5, i64_quo _ _ (by omega), i64_quo _ _ (by omega)]
      have d1 : decide (1000000 + drift = 0) = false := by simp; omega
      have d2 : decide (1000000 - drift = 0) = false := by simp; omega
      rw [d1, d2]
      rfl

theorem N17_eq {β : Type} (k : Bool → Option β) : f17_c N16 (f27_c N16 N63 N64 (f66_c N64)) k = N17 k := by kernel_rfl

section
variable {x z y y' : Int}
theorem el_eq (hx : 0 ≤ x ∧ x ≤ 500000) (hy : 0 ≤ y ∧ y ≤ 8589934592) : elapsed x y = (y * 1000000 / (1000000 + x), (y * 1000000 + (1000000 - x) - 1) / (1000000 - x)) := by
  unfold elapsed
  rw [inN_mk hx, inN_mk hy]
  rfl

theorem up_ge {a b : Int} (hb : 0 < b) : a ≤ (a + b - 1) / b * b := by
  have h1 := Int.lt_ediv_add_one_mul_self (a + b - 1) hb
  rw [Int.add_mul] at h1
  omega
theorem up_lt {a b : Int} (hb : 0 < b) : ((a + b - 1) / b - 1) * b < a := by
  have h1 := Int.ediv_mul_le (a + b - 1) (Int.ne_of_gt hb)
  rw [Int.sub_mul]
  omega

theorem low_drift {a b c : Int} (ha : 0 ≤ a) (hb : 0 < b) (hbc : b ≤ c) : a / c ≤ a / b := by
  rw [Int.le_ediv_iff_mul_le hb]
  have h1 := Int.ediv_mul_le a (Int.ne_of_gt (Int.lt_of_lt_of_le hb hbc))
  have h2 : 0 ≤ a / c := Int.ediv_nonneg ha (by omega)
  have h3 : a / c * b ≤ a / c * c := Int.mul_le_mul_of_nonneg_left hbc h2
  omega
theorem up_drift {a b c : Int} (ha : 0 ≤ a) (hb : 0 < b) (hbc : b ≤ c) : (a + c - 1) / c ≤ (a + b - 1) / b := by
  have h1 := up_ge (a := a) hb
  have h2 : 0 ≤ (a + b - 1) / b := Int.ediv_nonneg (by omega) (by omega)
  have h3 : (a + b - 1) / b * b ≤ (a + b - 1) / b * c := Int.mul_le_mul_of_nonneg_left hbc h2
  have h4 := up_lt (a := a) (b := c) (by omega)
  have h5 : ((a + c - 1) / c - 1) * c < (a + b - 1) / b * c := by omega
  have h6 := Int.lt_of_mul_lt_mul_right h5 (by omega : 0 ≤ c)
  omega
end

theorem widens {β : Type} {a b drift more : Int} (ha : 0 ≤ a ∧ a ≤ 4294967295) (hb : 0 ≤ b ∧ b ≤ 4294967295) (hd : 0 ≤ drift ∧ drift ≤ 4294967295) (hm : 0 ≤ more ∧ more ≤ 4294967295) (k : Bool → Option β) :
    f3_c N16 N17 a b drift more k = k true := by
  simp only [f3_c, f3_s, p3_511_c, p3_511_s, N16, N17]
  rw [i64_in a (by omega), i64_in b (by omega), i64_in drift (by omega), i64_in more (by omega)]
  have tm : ∀ (n m : Int), 0 ≤ n → Int.tmod n m = n % m := fun n m h => Int.tmod_eq_emod_of_nonneg h
  rw [tm drift _ hd.1, tm more _ hm.1, tm b _ hb.1]
  generalize hx : drift % 500001 = x
  have hx' : 0 ≤ x ∧ x ≤ 500000 := by omega
  generalize hr : more % 1000 = r
  have hr' : 0 ≤ r ∧ r ≤ 999 := by omega
  generalize hs : b % 1000 = s
  have hs' : 0 ≤ s ∧ s ≤ 999 := by omega
  rw [i64_in (x + r) (by omega), i64_in (a + s) (by omega)]
  generalize hz : (if (500000 : Int) < x + r then (500000 : Int) else x + r) = z
  have hz' : x ≤ z ∧ z ≤ 500000 := by split at hz <;> omega
  clear hx hr hs hz
  rw [el_eq hx' (y := a) (by omega), el_eq hx' (y := a + s) (by omega), el_eq (x := z) (by omega) (y := a) (by omega), el_eq (x := 0) (by omega) (y := a) (by omega)]
  have hpos1 : (0 : Int) < 1000000 + x := by omega
  have hpos2 : (0 : Int) < 1000000 - x := by omega
  have hA : 0 ≤ a * 1000000 ∧ a * 1000000 ≤ 4294967295000000 := by omega
  have f1 := Int.ediv_mul_le (a * 1000000) (Int.ne_of_gt hpos1)
  have f2 := Int.lt_ediv_add_one_mul_self (a * 1000000) hpos1
  have f3 := up_ge (a := a * 1000000) hpos2
  have f4 := up_lt (a := a * 1000000) hpos2
  have f5 : a * 1000000 / (1000000 + x) ≤ (a + s) * 1000000 / (1000000 + x) := Int.ediv_le_ediv hpos1 (by omega)
  have f6 : (a * 1000000 + (1000000 - x) - 1) / (1000000 - x) ≤ ((a + s) * 1000000 + (1000000 - x) - 1) / (1000000 - x) := Int.ediv_le_ediv hpos2 (by omega)
  have f7 : a * 1000000 / (1000000 + z) ≤ a * 1000000 / (1000000 + x) := low_drift hA.1 hpos1 (by omega)
  have f8 : (a * 1000000 + (1000000 - x) - 1) / (1000000 - x) ≤ (a * 1000000 + (1000000 - z) - 1) / (1000000 - z) := up_drift hA.1 (by omega) (by omega)
  have f9 : a * 1000000 / (1000000 + 0) = a := by omega
  have f10 : (a * 1000000 + (1000000 - 0) - 1) / (1000000 - 0) = a := by omega
  have g1 : 0 ≤ a * 1000000 / (1000000 + x) := Int.ediv_nonneg hA.1 (by omega)
  have g2 : 0 ≤ (a * 1000000 + (1000000 - x) - 1) / (1000000 - x) := Int.ediv_nonneg (by omega) (by omega)
  have g3 : a * 1000000 / (1000000 + x) ≤ a * 1000000 := Int.ediv_le_self _ hA.1
  have g4 : (a * 1000000 + (1000000 - x) - 1) / (1000000 - x) ≤ a * 1000000 + (1000000 - x) - 1 := Int.ediv_le_self _ (by omega)
  generalize a * 1000000 / (1000000 + x) = low at *
  generalize (a * 1000000 + (1000000 - x) - 1) / (1000000 - x) = high at *
  rw [f9, f10]
  have m1 : (low + 1) * (1000000 + x) = low * (1000000 + x) + (1000000 + x) := by rw [Int.add_mul]; omega
  have m2 : (high - 1) * (1000000 - x) = high * (1000000 - x) - (1000000 - x) := by rw [Int.sub_mul]; omega
  have n1 : 0 ≤ low * (1000000 + x) := Int.mul_nonneg g1 (by omega)
  have n2 : 0 ≤ high * (1000000 - x) := Int.mul_nonneg g2 (by omega)
  rw [i64_in (1000000 + x) (by omega), i64_in (1000000 - x) (by omega), i64_in (a * 1000000) (by omega), i64_in (low + 1) (by omega), i64_in (high - 1) (by omega),
    i64_in (low * (1000000 + x)) (by omega), i64_in ((low + 1) * (1000000 + x)) (by omega), i64_in (high * (1000000 - x)) (by omega), i64_in ((high - 1) * (1000000 - x)) (by omega)]
  simp [f1, f2, f3, f4, f5, f6, f7, f8]

/-! ### The specs -/
theorem ok63 : SpecOk Try.prog 63 (f63_S N63) := (f63_ok ΓOk_nil).weaker fun x k r h => (N63_eq ..).trans h
theorem ok64 : SpecOk Try.prog 64 (f64_S N64) := f64_ok N63 (ΓOk_cons ok63 ΓOk_nil)
theorem ok65 : SpecOk Try.prog 65 (f65_S f65_c) := f65_ok ΓOk_nil
theorem ok16 : SpecOk Try.prog 16 (f16_S N16) := (f16_ok N63 N64 f65_c (ΓOk_cons ok63 (ΓOk_cons ok64 (ΓOk_cons ok65 ΓOk_nil)))).weaker fun x k r h => (N16_eq ..).trans h
theorem ok66 : SpecOk Try.prog 66 (f66_S (f66_c N64)) := f66_ok N64 (ΓOk_cons ok64 ΓOk_nil)
theorem ok27 : SpecOk Try.prog 27 (f27_S (f27_c N16 N63 N64 (f66_c N64))) := f27_ok N16 N63 N64 (f66_c N64) (ΓOk_cons ok16 (ΓOk_cons ok63 (ΓOk_cons ok64 (ΓOk_cons ok66 ΓOk_nil))))
theorem ok17 : SpecOk Try.prog 17 (f17_S N17) := (f17_ok N16 (f27_c N16 N63 N64 (f66_c N64)) (ΓOk_cons ok16 (ΓOk_cons ok27 ΓOk_nil))).weaker fun x k r h => (N17_eq ..).trans h
theorem ok3 : SpecOk Try.prog 3 (f3_S (f3_c N16 N17)) := f3_ok N16 N17 (ΓOk_cons ok16 (ΓOk_cons ok17 ΓOk_nil))

theorem walk3 (a0 a1 a2 a3 : Int) (w0 : (Lit.int .u32 a0).wf = true) (w1 : (Lit.int .u32 a1).wf = true) (w2 : (Lit.int .u32 a2).wf = true) (w3 : (Lit.int .u32 a3).wf = true) (w : World) :
    Calls Try.prog 3 #[.int .u32 a0, .int .u32 a1, .int .u32 a2, .int .u32 a3] w fun e w' => e = .returned (.bool true) ∧ Below w.heap.size w w' := by
  have u : ∀ {n : Int}, (Lit.int .u32 n).wf = true → 0 ≤ n ∧ n ≤ 4294967295 := by
    intro n h
    simp [Lit.wf, IntKind.min, IntKind.max, IntKind.signed, IntKind.bits] at h
    omega
  have hl := widens (β := ST.dens (f3_S (f3_c N16 N17)).res × BT.dens (f3_S (f3_c N16 N17)).outs) (u w0) (u w1) (u w2) (u w3) (fun b => some (((b, ()), ()), ()))
  have := ok3.call0 rfl (((a0, ()), (a1, ()), (a2, ()), (a3, ()), ()), ()) (((true, ()), ()), ()) hl w [.int .u32 a0, .int .u32 a1, .int .u32 a2, .int .u32 a3]
    (TReps.int (TReps.int (TReps.int (TReps.int rfl))))
  refine this.mono fun e w' ⟨vals, pl', he, hb, ht⟩ => ?_
  have := TReps.bool ht
  subst this
  exact ⟨he, hb⟩
end
end Go.Lift
