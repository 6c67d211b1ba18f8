/- ClockTrue in plain Lean. -/
import Derived.Test.YtjkkgpclmocooaaFn0
import Derived.Test.YtjkkgpclmocooaaLBase
import Derived.Test.YtjkkgpclmocooaaLDice
import Derived.Test.YtjkkgpclmocooaaLClock
import Derived.Test.YtjkkgpclmocooaaLRecord
import Derived.Test.YtjkkgpclmocooaaLClockMore
namespace Go.Lift
open Go.RowKit Go.IntWalk
noncomputable section
set_option linter.unusedVariables false
set_option linter.unusedSimpArgs false

/-! ### A clock that runs with a rate within its drift -/
structure RateOk (drift S Q : Int) : Prop where
  hd : 0 ≤ drift ∧ drift ≤ 500000
  hS : 1 ≤ S ∧ S ≤ 1000000
  hQ : 1 ≤ Q ∧ Q ≤ 1500000
  low : Q * 1000000 ≤ (1000000 + drift) * S
  high : (1000000 - drift) * S ≤ Q * 1000000

theorem mul_bd {m q b : Int} (h0 : 0 ≤ m ∧ m ≤ 300) (h1 : 0 ≤ q ∧ q ≤ b) : 0 ≤ m * q ∧ m * q ≤ 300 * b :=
  ⟨Int.mul_nonneg h0.1 h1.1, Int.mul_le_mul h0.2 h1.2 h1.1 (by omega)⟩

theorem elapsed_rate {drift S Q m : Int} (h : RateOk drift S Q) (hm : 0 ≤ m ∧ m ≤ 300) : (elapsed drift (m * Q)).1 ≤ m * S ∧ m * S ≤ (elapsed drift (m * Q)).2 := by
  obtain ⟨⟨d1, d2⟩, ⟨s1, s2⟩, ⟨q1, q2⟩, hl, hh⟩ := h
  have b1 := mul_bd hm (q := Q) (b := 1500000) (by omega)
  have hp1 : (0 : Int) < 1000000 + drift := by omega
  have hp2 : (0 : Int) < 1000000 - drift := by omega
  have e1 : m * (Q * 1000000) ≤ m * ((1000000 + drift) * S) := Int.mul_le_mul_of_nonneg_left hl hm.1
  have e2 : m * ((1000000 - drift) * S) ≤ m * (Q * 1000000) := Int.mul_le_mul_of_nonneg_left hh hm.1
  have e3 : m * (Q * 1000000) = m * Q * 1000000 := (Int.mul_assoc ..).symm
  have e4 : m * ((1000000 + drift) * S) = m * S * (1000000 + drift) := by rw [Int.mul_comm (1000000 + drift) S, Int.mul_assoc]
  have e5 : m * ((1000000 - drift) * S) = m * S * (1000000 - drift) := by rw [Int.mul_comm (1000000 - drift) S, Int.mul_assoc]
  rw [e3, e4] at e1
  rw [e3, e5] at e2
  unfold elapsed
  rw [inN_mk ⟨d1, d2⟩, inN_mk (by omega)]
  simp only [Bool.and_true, cond_true]
  constructor
  · apply Int.le_of_lt_add_one
    rw [Int.ediv_lt_iff_lt_mul hp1, Int.add_mul]
    omega
  · rw [Int.le_ediv_iff_mul_le hp2]
    omega

def TrueSync (S Q : Int) (s : Sync) : Prop := ∃ j a b, (0 ≤ j ∧ j < 300) ∧ (0 ≤ a ∧ a ≤ 8) ∧ (0 ≤ b ∧ b ≤ 8) ∧ s = (0, 5000 + j * Q, 864000 + j * S - a, 864000 + j * S + b)

theorem TrueSync.ok {drift S Q : Int} (hr : RateOk drift S Q) {s : Sync} (h : TrueSync S Q s) : okSync s = true := by
  obtain ⟨j, a, b, hj, ha, hb, rfl⟩ := h
  have b1 := mul_bd (m := j) (by omega) (q := Q) (b := 1500000) (by have := hr.hQ; omega)
  have b2 := mul_bd (m := j) (by omega) (q := S) (b := 1000000) (by have := hr.hS; omega)
  simp only [okSync, Bool.and_eq_true, inN_iff, decide_eq_true_eq]
  omega

theorem TrueSync.from {drift S Q : Int} (hr : RateOk drift S Q) {s : Sync} (h : TrueSync S Q s) {i : Int} (hi : 0 ≤ i ∧ i < 300) (nm : List UInt8) :
    (fromS (nm, drift) s (5000 + i * Q)).1 ≤ 864000 + i * S ∧ 864000 + i * S ≤ (fromS (nm, drift) s (5000 + i * Q)).2 := by
  have hok := h.ok hr
  obtain ⟨j, a, b, hj, ha, hb, rfl⟩ := h
  have b1 := mul_bd (m := j) (by omega) (q := Q) (b := 1500000) (by have := hr.hQ; omega)
  have b2 := mul_bd (m := j) (by omega) (q := S) (b := 1000000) (by have := hr.hS; omega)
  have b3 := mul_bd (m := i) (by omega) (q := Q) (b := 1500000) (by have := hr.hQ; omega)
  have b4 := mul_bd (m := i) (by omega) (q := S) (b := 1000000) (by have := hr.hS; omega)
  have hq := hr.hQ
  rw [fromS_eq hr.hd hok (by omega)]
  split <;> rename_i hc <;> simp only at hc ⊢
  · have hle : j ≤ i := Int.le_of_mul_le_mul_right (show j * Q ≤ i * Q by omega) (by omega)
    have he := elapsed_rate hr (m := i - j) (by omega)
    have e1 : 5000 + i * Q - (5000 + j * Q) = (i - j) * Q := by rw [Int.sub_mul]; omega
    rw [Int.sub_mul i j S] at he
    rw [e1]
    omega
  · have hle : i ≤ j := by
      refine Classical.byContradiction fun hn => hc ?_
      have := Int.mul_le_mul_of_nonneg_right (show j ≤ i by omega) (show 0 ≤ Q by omega)
      omega
    have he := elapsed_rate hr (m := j - i) (by omega)
    have e1 : 5000 + j * Q - (5000 + i * Q) = (j - i) * Q := by rw [Int.sub_mul]; omega
    rw [Int.sub_mul j i S] at he
    rw [e1]
    omega

abbrev hst (drift : Int) : List Host := [([104], drift)]

theorem true_when {drift S Q : Int} (hr : RateOk drift S Q) {syncs : List Sync} (hs : ∀ s ∈ syncs, TrueSync S Q s) (hl : syncs.length ≤ 10) {i : Int} (hi : 0 ≤ i ∧ i < 300) :
    (when? (hst drift, syncs, [], []) 0 (5000 + i * Q)).2 = true ∧ (when? (hst drift, syncs, [], []) 0 (5000 + i * Q)).1.1 ≤ 864000 + i * S ∧ 864000 + i * S ≤ (when? (hst drift, syncs, [], []) 0 (5000 + i * Q)).1.2 := by
  have b3 := mul_bd (m := i) (by omega) (q := Q) (b := 1500000) (by have := hr.hQ; omega)
  have b4 := mul_bd (m := i) (by omega) (q := S) (b := 1000000) (by have := hr.hS; omega)
  have hv : valid (hst drift, syncs, [], []) = true := by
    simp only [valid, small, Bool.and_eq_true, List.all_cons, List.all_nil, List.length_cons, List.length_nil, Bool.not_eq_true', decide_eq_false_iff_not, List.all_eq_true, vHost, inN_iff]
    refine ⟨⟨by omega, by omega, by omega, by omega⟩, ⟨hr.hd, trivial⟩, fun s hsm => ?_, trivial, trivial⟩
    have h1 := (hs s hsm).ok hr
    obtain ⟨j, a, b, hj, ha, hb, rfl⟩ := hs s hsm
    simp only [vSync, h1, Bool.and_true, inN_iff]
    omega
  have hw : (whenR (hst drift, syncs, [], []) 0 (5000 + i * Q)).1 ≤ 864000 + i * S ∧ 864000 + i * S ≤ (whenR (hst drift, syncs, [], []) 0 (5000 + i * Q)).2 := by
    rw [whenR_eq]
    refine foldl_meet_in (by simp only; omega) fun f hf => ?_
    simp only [froms, List.mem_map, List.mem_filter, decide_eq_true_eq] at hf
    obtain ⟨s, ⟨hsm, hs0⟩, rfl⟩ := hf
    exact (hs s hsm).from hr hi [104]
  have e : when? (hst drift, syncs, [], []) 0 (5000 + i * Q) = (whenR (hst drift, syncs, [], []) 0 (5000 + i * Q), true) := by
    unfold Go.Lift.when?
    rw [hv, inN_mk (by simp), inN_mk (by omega)]
    simp only [Bool.and_self, cond_true]
    rw [decide_eq_false (by omega)]
    rfl
  rw [e]
  exact ⟨rfl, hw⟩

/-! ### The closures -/
section
variable {β : Type}
theorem f3_eq {S k : Int} (hS : 1 ≤ S ∧ S ≤ 1000000) (hk : 0 ≤ k ∧ k < 300) (K : Int → Int → Int → Option β) : law38_ClockTrue_f3 k 864000 S K = K (864000 + k * S) 864000 S := by
  have b := mul_bd (m := k) (by omega) (q := S) (b := 1000000) (by omega)
  simp only [law38_ClockTrue_f3, law38_ClockTrue_f3_s]
  rw [i64_in (k * S) (by omega), i64_in _ (by omega)]

theorem f2_eq {R k : Int} (hR : 1 ≤ R ∧ R ≤ 1500000) (hk : 0 ≤ k ∧ k < 300) (K : Int → Int → Int → Option β) : law38_ClockTrue_f2 (864000 + k * 1000000) 864000 R K = K (5000 + k * R) 864000 R := by
  have b := mul_bd (m := k) (by omega) (q := R) (b := 1500000) (by omega)
  have e1 : 864000 + k * 1000000 - 864000 = k * 1000000 := by omega
  have e2 : Int.tdiv (k * 1000000) 1000000 = k := Int.mul_tdiv_cancel k (by decide)
  simp only [law38_ClockTrue_f2, law38_ClockTrue_f2_s]
  rw [c_nneg (by decide), e1, i64_in (k * 1000000) (by omega), e2, i64_in k (by omega), i64_in (k * R) (by omega), i64_in _ (by omega)]

theorem f1_eq {k : Int} (hk : 0 ≤ k ∧ k < 300) (K : Int → Int → Int → Option β) : law38_ClockTrue_f1 (864000 + k * 1) 864000 1000000 K = K (5000 + k * 1) 864000 1000000 := by
  have e1 : 864000 + k * 1 - 864000 = k := by omega
  have e2 : Int.tdiv (k * 1000000) 1000000 = k := Int.mul_tdiv_cancel k (by decide)
  simp only [law38_ClockTrue_f1, law38_ClockTrue_f1_s]
  rw [c_nneg (by decide), e1, i64_in k (by omega), i64_in (k * 1000000) (by omega), e2, i64_in k (by omega), i64_in _ (by omega), Int.mul_one]
end

/-! ### The comparisons -/
theorem true_p1 {R : Int} (hR : 1 ≤ R ∧ R ≤ 1500000) (n : Int) (hosts : List Host) : ∀ (N f : Nat), N < f → ∀ (d : Dice) (syncs : List Sync), N ≤ 3 → DiceOk d → syncs.length + N ≤ 10 → (∀ s ∈ syncs, TrueSync 1000000 R s) →
    ∃ syncs' : List Sync, (∀ s ∈ syncs', TrueSync 1000000 R s) ∧ syncs'.length ≤ 10 ∧ ∀ {β : Type} (k1 : law38_ClockTrue_p1_K1 β), law38_ClockTrue_p1_n f k1 n (N : Int) d.1 d.2 864000 R 1000000 hosts syncs [] [] = k1 n 864000 R 1000000 hosts syncs' [] []
  | 0, f, hf, d, syncs, _, hd, hl, hs => by
    obtain ⟨f, rfl⟩ : ∃ f', f = f' + 1 := ⟨f - 1, by omega⟩
    refine ⟨syncs, hs, by omega, fun k1 => ?_⟩
    rw [law38_ClockTrue_p1_step]
    unfold law38_ClockTrue_p1_s
    exact c_neg (by omega)
  | N + 1, f, hf, d, syncs, hN, hd, hl, hs => by
    obtain ⟨f, rfl⟩ : ∃ f', f = f' + 1 := ⟨f - 1, by omega⟩
    obtain ⟨j, d1, g1, g2, hd1, f1⟩ := next_ok (n := 300) hd (by omega)
    obtain ⟨a, d2, g3, g4, hd2, f2⟩ := next_ok (n := 9) hd1 (by omega)
    obtain ⟨b, d3, g5, g6, hd3, f3⟩ := next_ok (n := 9) hd2 (by omega)
    have hnew : ∀ s ∈ syncs ++ [((0, (5000 + j * R, (864000 + j * 1000000 - a, 864000 + j * 1000000 + b))) : Sync)], TrueSync 1000000 R s := by
      intro s hsm
      rcases List.mem_append.1 hsm with h | h
      · exact hs s h
      · simp only [List.mem_cons, List.not_mem_nil, or_false] at h
        exact ⟨j, a, b, ⟨g1, g2⟩, by omega, by omega, h⟩
    obtain ⟨syncs', h1, h2, h3⟩ := true_p1 hR n hosts N f (by omega) d3 _ (by omega) hd3 (by simp only [List.length_append, List.length_cons, List.length_nil]; omega) hnew
    refine ⟨syncs', h1, h2, fun k1 => ?_⟩
    rw [← h3 k1, law38_ClockTrue_p1_step]
    unfold law38_ClockTrue_p1_s
    have e1 : ((N + 1 : Nat) : Int) - 1 = N := by omega
    refine (c_pos (by omega)).trans ?_
    refine (f1 _).trans ?_
    refine (f3_eq (by omega) (by omega) _).trans ?_
    refine (f2_eq hR (by omega) _).trans ?_
    refine (f2 _).trans ?_
    refine (f3 _).trans ?_
    simp only [e1]
    rw [i64_in _ (by omega), i64_in _ (by omega), i64_in _ (by omega)]
    exact c_room (by simp only [List.length_cons, List.length_nil]; omega)

theorem true_p3 (n : Int) (hosts : List Host) : ∀ (N f : Nat), N < f → ∀ (d : Dice) (syncs : List Sync), N ≤ 3 → DiceOk d → syncs.length + N ≤ 10 → (∀ s ∈ syncs, TrueSync 1 1 s) →
    ∃ syncs' : List Sync, (∀ s ∈ syncs', TrueSync 1 1 s) ∧ syncs'.length ≤ 10 ∧ ∀ {β : Type} (k1 : law38_ClockTrue_p3_K1 β), law38_ClockTrue_p3_n f k1 n (N : Int) d.1 d.2 864000 1000000 1 hosts syncs [] [] = k1 n 864000 1000000 1 hosts syncs' [] []
  | 0, f, hf, d, syncs, _, hd, hl, hs => by
    obtain ⟨f, rfl⟩ : ∃ f', f = f' + 1 := ⟨f - 1, by omega⟩
    refine ⟨syncs, hs, by omega, fun k1 => ?_⟩
    rw [law38_ClockTrue_p3_step]
    unfold law38_ClockTrue_p3_s
    exact c_neg (by omega)
  | N + 1, f, hf, d, syncs, hN, hd, hl, hs => by
    obtain ⟨f, rfl⟩ : ∃ f', f = f' + 1 := ⟨f - 1, by omega⟩
    obtain ⟨j, d1, g1, g2, hd1, f1⟩ := next_ok (n := 300) hd (by omega)
    obtain ⟨a, d2, g3, g4, hd2, f2⟩ := next_ok (n := 9) hd1 (by omega)
    obtain ⟨b, d3, g5, g6, hd3, f3⟩ := next_ok (n := 9) hd2 (by omega)
    have hnew : ∀ s ∈ syncs ++ [((0, (5000 + j * 1, (864000 + j * 1 - a, 864000 + j * 1 + b))) : Sync)], TrueSync 1 1 s := by
      intro s hsm
      rcases List.mem_append.1 hsm with h | h
      · exact hs s h
      · simp only [List.mem_cons, List.not_mem_nil, or_false] at h
        exact ⟨j, a, b, ⟨g1, g2⟩, by omega, by omega, h⟩
    obtain ⟨syncs', h1, h2, h3⟩ := true_p3 n hosts N f (by omega) d3 _ (by omega) hd3 (by simp only [List.length_append, List.length_cons, List.length_nil]; omega) hnew
    refine ⟨syncs', h1, h2, fun k1 => ?_⟩
    rw [← h3 k1, law38_ClockTrue_p3_step]
    unfold law38_ClockTrue_p3_s
    have e1 : ((N + 1 : Nat) : Int) - 1 = N := by omega
    refine (c_pos (by omega)).trans ?_
    refine (f1 _).trans ?_
    refine (f3_eq (by omega) (by omega) _).trans ?_
    refine (f1_eq (by omega) _).trans ?_
    refine (f2 _).trans ?_
    refine (f3 _).trans ?_
    simp only [e1]
    rw [i64_in _ (by omega), i64_in _ (by omega), i64_in _ (by omega)]
    exact c_room (by simp only [List.length_cons, List.length_nil]; omega)

theorem mod300 {n : Int} (hn : 0 ≤ n ∧ n ≤ 65535) : IntKind.i64.wrap n = n ∧ 0 ≤ Int.tmod n 300 ∧ Int.tmod n 300 < 300 := by
  have h1 := Int.tmod_lt_of_pos n (show (0 : Int) < 300 by omega)
  have h2 := Int.tmod_nonneg 300 hn.1
  exact ⟨i64_in _ (by omega), h2, h1⟩

theorem true_p2 {β : Type} {drift R : Int} (hr : RateOk drift 1000000 R) {n : Int} (hn : 0 ≤ n ∧ n ≤ 65535) {d : Dice} (hd : DiceOk d) (k1 : law38_ClockTrue_p2_K1 β) :
    law38_ClockTrue_p2 k1 n drift d.1 d.2 864000 R 1000000 = k1 true := by
  obtain ⟨N, d1, g1, g2, hd1, f1⟩ := next_ok (n := 4) hd (by omega)
  obtain ⟨syncs, h1, h2, h3⟩ := true_p1 hr.hQ n (hst drift) N.toNat fuel (lt_fuel (by omega)) d1 [] (by omega) hd1 (by simp; omega) (by simp)
  obtain ⟨m0, m1, m2⟩ := mod300 hn
  obtain ⟨w1, w2, w3⟩ := true_when hr h1 h2 (i := Int.tmod n 300) ⟨m1, m2⟩
  have eN : ((N.toNat : Nat) : Int) = N := by omega
  rw [eN] at h3
  unfold law38_ClockTrue_p2 law38_ClockTrue_p2_u law38_ClockTrue_p2_s
  refine (f1 _).trans ?_
  unfold law38_ClockTrue_p1
  refine (h3 _).trans ?_
  refine (c_nneg (by decide)).trans ?_
  rw [m0]
  refine (f3_eq (by omega) ⟨m1, m2⟩ _).trans ?_
  refine (f2_eq hr.hQ ⟨m1, m2⟩ _).trans ?_
  refine (clock_When_eq _ _ _ _).trans ?_
  rw [w1]
  refine (c_pos w2).trans ?_
  refine (c_pos w3).trans ?_
  exact law38_sane_eq _

theorem true_p4 {β : Type} {drift : Int} (hr : RateOk drift 1 1) {n : Int} (hn : 0 ≤ n ∧ n ≤ 65535) {d : Dice} (hd : DiceOk d) (k1 : law38_ClockTrue_p4_K1 β) :
    law38_ClockTrue_p4 k1 n drift d.1 d.2 864000 1000000 1 = k1 true := by
  obtain ⟨N, d1, g1, g2, hd1, f1⟩ := next_ok (n := 4) hd (by omega)
  obtain ⟨syncs, h1, h2, h3⟩ := true_p3 n (hst drift) N.toNat fuel (lt_fuel (by omega)) d1 [] (by omega) hd1 (by simp; omega) (by simp)
  obtain ⟨m0, m1, m2⟩ := mod300 hn
  obtain ⟨w1, w2, w3⟩ := true_when hr h1 h2 (i := Int.tmod n 300) ⟨m1, m2⟩
  have eN : ((N.toNat : Nat) : Int) = N := by omega
  rw [eN] at h3
  unfold law38_ClockTrue_p4 law38_ClockTrue_p4_u law38_ClockTrue_p4_s
  refine (f1 _).trans ?_
  unfold law38_ClockTrue_p3
  refine (h3 _).trans ?_
  refine (c_nneg (by decide)).trans ?_
  rw [m0]
  refine (f3_eq (by omega) ⟨m1, m2⟩ _).trans ?_
  refine (f1_eq ⟨m1, m2⟩ _).trans ?_
  refine (clock_When_eq _ _ _ _).trans ?_
  rw [w1]
  refine (c_pos w2).trans ?_
  refine (c_pos w3).trans ?_
  exact law38_sane_eq _

theorem clockTrue {t : List Int} {n : Int} (hn : 0 ≤ n ∧ n ≤ 65535) {β : Type} (k : Bool → Option β) : law38_ClockTrue t n k = k true := by
  unfold law38_ClockTrue law38_ClockTrue_s
  refine (light_eq _ _).trans ?_
  by_cases hl : (t.length : Int) ≤ 500
  · rw [decide_eq_true hl]
    refine (roll_eq _ _).trans ?_
    obtain ⟨drift, d1, hm, hd1, f1⟩ := one_ok (l := [0, 100, 50000, 500000]) (by simp) (by simp) (roll_ok hl)
    refine (f1 _).trans ?_
    have hdr : 0 ≤ drift ∧ drift ≤ 500000 := by
      simp only [List.mem_cons, List.not_mem_nil, or_false] at hm
      omega
    obtain ⟨r, d2, g1, g2, hd2, f2⟩ := next_ok (n := 2 * drift + 1) hd1 (by omega)
    have e1 : IntKind.i64.wrap (2 * drift) = 2 * drift := i64_in _ (by omega)
    have e2 : IntKind.i64.wrap (2 * drift + 1) = 2 * drift + 1 := i64_in _ (by omega)
    have e3 : IntKind.i64.wrap (1000000 - drift) = 1000000 - drift := i64_in _ (by omega)
    have e4 : IntKind.i64.wrap (1000000 - drift + r) = 1000000 - drift + r := i64_in _ (by omega)
    simp only [e1, e2]
    refine (f2 _).trans ?_
    simp only [e3, e4]
    by_cases hR : 1000000 - drift + r = 1000000
    · refine (c_npos hR).trans ?_
      refine (c_npos hR).trans ?_
      rw [hR]
      exact true_p4 ⟨hdr, by omega, by omega, by omega, by omega⟩ hn hd2 _
    · refine (c_nneg hR).trans ?_
      refine (c_nneg hR).trans ?_
      exact true_p2 ⟨hdr, by omega, by omega, by omega, by omega⟩ hn hd2 _
  · rw [decide_eq_false hl]
    exact law38_sane_eq _
end
end Go.Lift
