/- The functional forms of clock.in, instant, Elapsed, compared, From, sane and ClockWidens, and that the code computes them. No conditions. -/
import Derived.Test.YtjkkgpclmocooaaLiftU
import Derived.Test.YtjkkgpclmocooaaProg
namespace Go.Lift
open Go.Proofs
noncomputable section
set_option maxRecDepth 100000
set_option linter.unusedVariables false

def fuel : Nat := 18446744073709551616

def tab : List (Nat × TI) := [
  (3, ⟨false, 1, 8, [.int .i64 (0 : Int)], [], none, none, (some (.int .i64)), (some .i64), false, false, none⟩),
  (22, ⟨false, 1, 4, [.int .u32 (0 : Int)], [], none, none, (some (.int .u32)), (some .u32), false, false, none⟩),
  (27, ⟨false, 1, 24, [.nils], [], (some 3), none, (some (.slice (.int .i64))), none, false, false, none⟩),
  (35, ⟨true, 2, 24, [.str ([] : List UInt8), .int .i64 (0 : Int)], [(0, 1, false), (1, 1, false)], none, none, (some (.prod .str (.int .i64))), none, false, false, (some [.s, .i])⟩),
  (36, ⟨false, 1, 24, [.nils], [], (some 35), none, (some (.slice (.prod .str (.int .i64)))), none, false, false, none⟩),
  (37, ⟨false, 1, 24, [.nils], [], (some 43), none, (some (.slice (.prod (.int .i64) (.prod (.int .i64) (.prod (.int .i64) (.int .i64)))))), none, false, false, none⟩),
  (38, ⟨false, 1, 24, [.nils], [], (some 65), none, (some (.slice (.prod (.int .i64) (.prod (.int .i64) .str)))), none, false, false, none⟩),
  (39, ⟨false, 1, 24, [.nils], [], (some 67), none, (some (.slice (.prod (.int .i64) (.prod (.int .i64) (.int .i64))))), none, false, false, none⟩),
  (41, ⟨true, 4, 96, [.nils, .nils, .nils, .nils], [(0, 1, false), (1, 1, false), (2, 1, false), (3, 1, false)], none, none, (some (.prod (.slice (.prod .str (.int .i64))) (.prod (.slice (.prod (.int .i64) (.prod (.int .i64) (.prod (.int .i64) (.int .i64))))) (.prod (.slice (.prod (.int .i64) (.prod (.int .i64) .str))) (.slice (.prod (.int .i64) (.prod (.int .i64) (.int .i64)))))))), none, false, false, none⟩),
  (43, ⟨true, 4, 32, [.int .i64 (0 : Int), .int .i64 (0 : Int), .int .i64 (0 : Int), .int .i64 (0 : Int)], [(0, 1, false), (1, 1, false), (2, 1, false), (3, 1, false)], none, none, (some (.prod (.int .i64) (.prod (.int .i64) (.prod (.int .i64) (.int .i64))))), none, false, false, (some [.i, .i, .i, .i])⟩),
  (45, ⟨true, 2, 16, [.int .i64 (0 : Int), .int .i64 (0 : Int)], [(0, 1, false), (1, 1, false)], none, none, (some (.prod (.int .i64) (.int .i64))), none, false, false, (some [.i, .i])⟩),
  (56, ⟨true, 2, 16, [.int .i64 (0 : Int), .int .i64 (0 : Int)], [], (some 3), (some 2), (some (.prod (.int .i64) (.int .i64))), none, false, false, (some [.i, .i])⟩),
  (57, ⟨false, 1, 24, [.nils], [], (some 56), none, (some (.slice (.prod (.int .i64) (.int .i64)))), none, false, false, none⟩),
  (61, ⟨false, 1, 24, [.nils], [], (some 27), none, (some (.slice (.slice (.int .i64)))), none, false, false, none⟩),
  (65, ⟨true, 3, 32, [.int .i64 (0 : Int), .int .i64 (0 : Int), .str ([] : List UInt8)], [(0, 1, false), (1, 1, false), (2, 1, false)], none, none, (some (.prod (.int .i64) (.prod (.int .i64) .str))), none, false, false, (some [.i, .i, .s])⟩),
  (67, ⟨true, 3, 24, [.int .i64 (0 : Int), .int .i64 (0 : Int), .int .i64 (0 : Int)], [(0, 1, false), (1, 1, false), (2, 1, false)], none, none, (some (.prod (.int .i64) (.prod (.int .i64) (.int .i64)))), none, false, false, (some [.i, .i, .i])⟩),
  (70, ⟨false, 1, 24, [.nils], [], (some 45), none, (some (.slice (.prod (.int .i64) (.int .i64)))), none, false, false, none⟩),
  (78, ⟨false, 1, 24, [.nils], [], (some 82), none, (some (.slice (.prod (.int .i64) (.prod (.int .i64) (.int .i64))))), none, false, false, none⟩),
  (82, ⟨true, 3, 24, [.int .i64 (0 : Int), .int .i64 (0 : Int), .int .i64 (0 : Int)], [(0, 1, false), (1, 1, false), (2, 1, false)], none, none, (some (.prod (.int .i64) (.prod (.int .i64) (.int .i64)))), none, false, false, (some [.i, .i, .i])⟩),
  (90, ⟨true, 2, 32, [.nils, .int .i64 (0 : Int)], [(0, 1, false), (1, 1, false)], none, none, (some (.prod (.slice (.int .i64)) (.int .i64))), none, false, false, none⟩),
  (94, ⟨false, 1, 24, [.nils], [], (some 27), none, (some (.slice (.slice (.int .i64)))), none, false, false, none⟩)]

theorem tab_ok : TOk Try.prog (look tab) := TOk_of (by kernel_rfl)
theorem mixed : Try.prog.follows .mixedOrders = true := by kernel_rfl

/-- pagewatch/clock.in -/
def f63_s {β : Type} (n : Int) (low : Int) (high : Int) (k : (Bool → Option β)) : Option β :=
  cond (decide (low ≤ n))
  (k (decide (n ≤ high)))
  (k false)

def f63_c {β : Type} (n : Int) (low : Int) (high : Int) (k : (Bool → Option β)) : Option β := f63_s n low high k

def f63_S (c : {β : Type} → Int → Int → Int → (Bool → Option β) → Option β) : Spec :=
  ⟨[(false, [.data (.int .i64)]), (false, [.data (.int .i64)]), (false, [.data (.int .i64)])], [], [(false, [.data .bool])], [], fun x k => c x.1.1.1 x.1.2.1.1 x.1.2.2.1.1 (fun r0 => k (((r0, ()), ()), ()))⟩

theorem f63_eq {β : Type} (x : ST.dens (f63_S (f63_s)).params × BT.dens (f63_S (f63_s)).ins) (k : ST.dens (f63_S (f63_s)).res × BT.dens (f63_S (f63_s)).outs → Option β) : (f63_S (f63_s)).run x k =
    exec ⟨look tab, pick1 []⟩ 15 (pick1 []) 1 (bodyOf Try.f63) ((vIn (f63_S (f63_s))).mk' x) (retK (look tab) (f63_S (f63_s)) [.tmp 6] k) := by kernel_rfl

theorem f63_ok' (hΓ : ΓOk Try.prog (pick1 [])) : SpecOk Try.prog 63 (f63_S (f63_s)) :=
  spec_exec (X := ⟨look tab, pick1 []⟩) (Λ := pick1 []) (rs := [.tmp 6]) (c := bodyOf Try.f63) mixed tab_ok hΓ Try.func63 (by kernel_rfl) (by kernel_rfl) (by kernel_rfl) (by kernel_rfl) CutsOk_nil (fun x k r h => (f63_eq x k).symm.trans h)

theorem f63_ok (hΓ : ΓOk Try.prog (pick1 [])) : SpecOk Try.prog 63 (f63_S (f63_c)) :=
  f63_ok' hΓ

/-- pagewatch/clock.instant -/
def f64_s {β : Type} (c63 : {β : Type} → Int → Int → Int → (Bool → Option β) → Option β) (n : Int) (k : (Bool → Option β)) : Option β :=
  c63 n (0 : Int) (8589934592 : Int) (fun (rin : Bool) =>
  k rin)

def f64_c {β : Type} (c63 : {β : Type} → Int → Int → Int → (Bool → Option β) → Option β) (n : Int) (k : (Bool → Option β)) : Option β := f64_s c63 n k

def f64_S (c : {β : Type} → Int → (Bool → Option β) → Option β) : Spec :=
  ⟨[(false, [.data (.int .i64)])], [], [(false, [.data .bool])], [], fun x k => c x.1.1.1 (fun r0 => k (((r0, ()), ()), ()))⟩

theorem f64_eq (c63 : {β : Type} → Int → Int → Int → (Bool → Option β) → Option β) {β : Type} (x : ST.dens (f64_S (f64_s c63)).params × BT.dens (f64_S (f64_s c63)).ins) (k : ST.dens (f64_S (f64_s c63)).res × BT.dens (f64_S (f64_s c63)).outs → Option β) : (f64_S (f64_s c63)).run x k =
    exec ⟨look tab, pick1 [(63, f63_S c63)]⟩ 5 (pick1 []) 1 (bodyOf Try.f64) ((vIn (f64_S (f64_s c63))).mk' x) (retK (look tab) (f64_S (f64_s c63)) [.tmp 2] k) := by kernel_rfl

theorem f64_ok' (c63 : {β : Type} → Int → Int → Int → (Bool → Option β) → Option β) (hΓ : ΓOk Try.prog (pick1 [(63, f63_S c63)])) : SpecOk Try.prog 64 (f64_S (f64_s c63)) :=
  spec_exec (X := ⟨look tab, pick1 [(63, f63_S c63)]⟩) (Λ := pick1 []) (rs := [.tmp 2]) (c := bodyOf Try.f64) mixed tab_ok hΓ Try.func64 (by kernel_rfl) (by kernel_rfl) (by kernel_rfl) (by kernel_rfl) CutsOk_nil (fun x k r h => (f64_eq c63 x k).symm.trans h)

theorem f64_ok (c63 : {β : Type} → Int → Int → Int → (Bool → Option β) → Option β) (hΓ : ΓOk Try.prog (pick1 [(63, f63_S c63)])) : SpecOk Try.prog 64 (f64_S (f64_c c63)) :=
  f64_ok' c63 hΓ

/-- pagewatch/clock.Elapsed$1 -/
def f65_s {β : Type} (a : Int) (b : Int) (k : (Int → Option β)) : Option β :=
  cond (!decide (b = 0))
  (let t : Int := (IntKind.i64.wrap (Int.tdiv (IntKind.i64.wrap ((IntKind.i64.wrap (a + b)) - (1 : Int))) b));
  k t)
  none

def f65_c {β : Type} (a : Int) (b : Int) (k : (Int → Option β)) : Option β := f65_s a b k

def f65_S (c : {β : Type} → Int → Int → (Int → Option β) → Option β) : Spec :=
  ⟨[(false, [.data (.int .i64)]), (false, [.data (.int .i64)])], [], [(false, [.data (.int .i64)])], [], fun x k => c x.1.1.1 x.1.2.1.1 (fun r0 => k (((r0, ()), ()), ()))⟩

theorem f65_eq {β : Type} (x : ST.dens (f65_S (f65_s)).params × BT.dens (f65_S (f65_s)).ins) (k : ST.dens (f65_S (f65_s)).res × BT.dens (f65_S (f65_s)).outs → Option β) : (f65_S (f65_s)).run x k =
    exec ⟨look tab, pick1 []⟩ 11 (pick1 []) 1 (bodyOf Try.f65) ((vIn (f65_S (f65_s))).mk' x) (retK (look tab) (f65_S (f65_s)) [.tmp 4] k) := by kernel_rfl

theorem f65_ok' (hΓ : ΓOk Try.prog (pick1 [])) : SpecOk Try.prog 65 (f65_S (f65_s)) :=
  spec_exec (X := ⟨look tab, pick1 []⟩) (Λ := pick1 []) (rs := [.tmp 4]) (c := bodyOf Try.f65) mixed tab_ok hΓ Try.func65 (by kernel_rfl) (by kernel_rfl) (by kernel_rfl) (by kernel_rfl) CutsOk_nil (fun x k r h => (f65_eq x k).symm.trans h)

theorem f65_ok (hΓ : ΓOk Try.prog (pick1 [])) : SpecOk Try.prog 65 (f65_S (f65_c)) :=
  f65_ok' hΓ

/-- pagewatch/clock.compared -/
def f66_s {β : Type} (c64 : {β : Type} → Int → (Bool → Option β) → Option β) (s : (Int × (Int × (Int × Int)))) (k : (Bool → Option β)) : Option β :=
  c64 s.2.1 (fun (rinstant : Bool) =>
  cond rinstant
  (c64 s.2.2.1 (fun (rinstant2 : Bool) =>
  cond rinstant2
  (c64 s.2.2.2 (fun (rinstant3 : Bool) =>
  cond rinstant3
  (let t : Bool := (decide (s.2.2.1 ≤ s.2.2.2));
  k t)
  (k false)))
  (k false)))
  (k false))

def f66_c {β : Type} (c64 : {β : Type} → Int → (Bool → Option β) → Option β) (s : (Int × (Int × (Int × Int)))) (k : (Bool → Option β)) : Option β := f66_s c64 s k

def f66_S (c : {β : Type} → (Int × (Int × (Int × Int))) → (Bool → Option β) → Option β) : Spec :=
  ⟨[(true, [.data (.prod (.int .i64) (.prod (.int .i64) (.prod (.int .i64) (.int .i64))))])], [], [(false, [.data .bool])], [], fun x k => c x.1.1.1 (fun r0 => k (((r0, ()), ()), ()))⟩

theorem f66_eq (c64 : {β : Type} → Int → (Bool → Option β) → Option β) {β : Type} (x : ST.dens (f66_S (f66_s c64)).params × BT.dens (f66_S (f66_s c64)).ins) (k : ST.dens (f66_S (f66_s c64)).res × BT.dens (f66_S (f66_s c64)).outs → Option β) : (f66_S (f66_s c64)).run x k =
    exec ⟨look tab, pick1 [(64, f64_S c64)]⟩ 23 (pick1 []) 1 (bodyOf Try.f66) ((vIn (f66_S (f66_s c64))).mk' x) (retK (look tab) (f66_S (f66_s c64)) [.tmp 2] k) := by kernel_rfl

theorem f66_ok' (c64 : {β : Type} → Int → (Bool → Option β) → Option β) (hΓ : ΓOk Try.prog (pick1 [(64, f64_S c64)])) : SpecOk Try.prog 66 (f66_S (f66_s c64)) :=
  spec_exec (X := ⟨look tab, pick1 [(64, f64_S c64)]⟩) (Λ := pick1 []) (rs := [.tmp 2]) (c := bodyOf Try.f66) mixed tab_ok hΓ Try.func66 (by kernel_rfl) (by kernel_rfl) (by kernel_rfl) (by kernel_rfl) CutsOk_nil (fun x k r h => (f66_eq c64 x k).symm.trans h)

theorem f66_ok (c64 : {β : Type} → Int → (Bool → Option β) → Option β) (hΓ : ΓOk Try.prog (pick1 [(64, f64_S c64)])) : SpecOk Try.prog 66 (f66_S (f66_c c64)) :=
  f66_ok' c64 hΓ

/-- pagewatch/clock.Elapsed -/
def f16_s {β : Type} (c63 : {β : Type} → Int → Int → Int → (Bool → Option β) → Option β) (c64 : {β : Type} → Int → (Bool → Option β) → Option β) (c65 : {β : Type} → Int → Int → (Int → Option β) → Option β) (drift : Int) (d : Int) (k : (Int → Int → Option β)) : Option β :=
  c63 drift (0 : Int) (500000 : Int) (fun (rin : Bool) =>
  cond (!rin)
  (k (0 : Int) (0 : Int))
  (c64 d (fun (rinstant : Bool) =>
  cond (!rinstant)
  (k (0 : Int) (0 : Int))
  (cond (!decide ((IntKind.i64.wrap ((1000000 : Int) + drift)) = 0))
  (c65 (IntKind.i64.wrap (d * (1000000 : Int))) (IntKind.i64.wrap ((1000000 : Int) - drift)) (fun (rElapsed1 : Int) =>
  let low : Int := (IntKind.i64.wrap (Int.tdiv (IntKind.i64.wrap (d * (1000000 : Int))) (IntKind.i64.wrap ((1000000 : Int) + drift))));
  k low rElapsed1))
  none))))

def f16_c {β : Type} (c63 : {β : Type} → Int → Int → Int → (Bool → Option β) → Option β) (c64 : {β : Type} → Int → (Bool → Option β) → Option β) (c65 : {β : Type} → Int → Int → (Int → Option β) → Option β) (drift : Int) (d : Int) (k : (Int → Int → Option β)) : Option β := f16_s c63 c64 c65 drift d k

def f16_S (c : {β : Type} → Int → Int → (Int → Int → Option β) → Option β) : Spec :=
  ⟨[(false, [.data (.int .i64)]), (false, [.data (.int .i64)])], [], [(false, [.data (.int .i64)]), (false, [.data (.int .i64)])], [], fun x k => c x.1.1.1 x.1.2.1.1 (fun r0 r1 => k (((r0, ()), (r1, ()), ()), ()))⟩

theorem f16_eq (c63 : {β : Type} → Int → Int → Int → (Bool → Option β) → Option β) (c64 : {β : Type} → Int → (Bool → Option β) → Option β) (c65 : {β : Type} → Int → Int → (Int → Option β) → Option β) {β : Type} (x : ST.dens (f16_S (f16_s c63 c64 c65)).params × BT.dens (f16_S (f16_s c63 c64 c65)).ins) (k : ST.dens (f16_S (f16_s c63 c64 c65)).res × BT.dens (f16_S (f16_s c63 c64 c65)).outs → Option β) : (f16_S (f16_s c63 c64 c65)).run x k =
    exec ⟨look tab, pick1 [(63, f63_S c63), (64, f64_S c64), (65, f65_S c65)]⟩ 26 (pick1 []) 1 (bodyOf Try.f16) ((vIn (f16_S (f16_s c63 c64 c65))).mk' x) (retK (look tab) (f16_S (f16_s c63 c64 c65)) [.tmp 4, .tmp 5] k) := by kernel_rfl

theorem f16_ok' (c63 : {β : Type} → Int → Int → Int → (Bool → Option β) → Option β) (c64 : {β : Type} → Int → (Bool → Option β) → Option β) (c65 : {β : Type} → Int → Int → (Int → Option β) → Option β) (hΓ : ΓOk Try.prog (pick1 [(63, f63_S c63), (64, f64_S c64), (65, f65_S c65)])) : SpecOk Try.prog 16 (f16_S (f16_s c63 c64 c65)) :=
  spec_exec (X := ⟨look tab, pick1 [(63, f63_S c63), (64, f64_S c64), (65, f65_S c65)]⟩) (Λ := pick1 []) (rs := [.tmp 4, .tmp 5]) (c := bodyOf Try.f16) mixed tab_ok hΓ Try.func16 (by kernel_rfl) (by kernel_rfl) (by kernel_rfl) (by kernel_rfl) CutsOk_nil (fun x k r h => (f16_eq c63 c64 c65 x k).symm.trans h)

theorem f16_ok (c63 : {β : Type} → Int → Int → Int → (Bool → Option β) → Option β) (c64 : {β : Type} → Int → (Bool → Option β) → Option β) (c65 : {β : Type} → Int → Int → (Int → Option β) → Option β) (hΓ : ΓOk Try.prog (pick1 [(63, f63_S c63), (64, f64_S c64), (65, f65_S c65)])) : SpecOk Try.prog 16 (f16_S (f16_c c63 c64 c65)) :=
  f16_ok' c63 c64 c65 hΓ

/-- pagewatch/clock.From -/
def f27_s {β : Type} (c16 : {β : Type} → Int → Int → (Int → Int → Option β) → Option β) (c63 : {β : Type} → Int → Int → Int → (Bool → Option β) → Option β) (c64 : {β : Type} → Int → (Bool → Option β) → Option β) (c66 : {β : Type} → (Int × (Int × (Int × Int))) → (Bool → Option β) → Option β) (h : (List UInt8 × Int)) (s : (Int × (Int × (Int × Int)))) (clock : Int) (k : ((Int × Int) → Option β)) : Option β :=
  c63 h.2 (0 : Int) (500000 : Int) (fun (rin : Bool) =>
  cond (!rin)
  (k ((-1099511627776 : Int), (1099511627776 : Int)))
  (c66 s (fun (rcompared : Bool) =>
  cond (!rcompared)
  (k ((-1099511627776 : Int), (1099511627776 : Int)))
  (c64 clock (fun (rinstant : Bool) =>
  cond (!rinstant)
  (k ((-1099511627776 : Int), (1099511627776 : Int)))
  (cond (decide (s.2.1 ≤ clock))
  (c16 h.2 (IntKind.i64.wrap (clock - s.2.1)) (fun (rElapsed : Int) (rElapsed2 : Int) =>
  k ((IntKind.i64.wrap (s.2.2.1 + rElapsed)), (IntKind.i64.wrap (s.2.2.2 + rElapsed2)))))
  (c16 h.2 (IntKind.i64.wrap (s.2.1 - clock)) (fun (rElapsed : Int) (rElapsed2 : Int) =>
  k ((IntKind.i64.wrap (s.2.2.1 - rElapsed2)), (IntKind.i64.wrap (s.2.2.2 - rElapsed)))))))))))

def f27_c {β : Type} (c16 : {β : Type} → Int → Int → (Int → Int → Option β) → Option β) (c63 : {β : Type} → Int → Int → Int → (Bool → Option β) → Option β) (c64 : {β : Type} → Int → (Bool → Option β) → Option β) (c66 : {β : Type} → (Int × (Int × (Int × Int))) → (Bool → Option β) → Option β) (h : (List UInt8 × Int)) (s : (Int × (Int × (Int × Int)))) (clock : Int) (k : ((Int × Int) → Option β)) : Option β := f27_s c16 c63 c64 c66 h s clock k

def f27_S (c : {β : Type} → (List UInt8 × Int) → (Int × (Int × (Int × Int))) → Int → ((Int × Int) → Option β) → Option β) : Spec :=
  ⟨[(true, [.data (.prod .str (.int .i64))]), (true, [.data (.prod (.int .i64) (.prod (.int .i64) (.prod (.int .i64) (.int .i64))))]), (false, [.data (.int .i64)])], [], [(true, [.data (.prod (.int .i64) (.int .i64))])], [], fun x k => c x.1.1.1 x.1.2.1.1 x.1.2.2.1.1 (fun r0 => k (((r0, ()), ()), ()))⟩

theorem f27_eq (c16 : {β : Type} → Int → Int → (Int → Int → Option β) → Option β) (c63 : {β : Type} → Int → Int → Int → (Bool → Option β) → Option β) (c64 : {β : Type} → Int → (Bool → Option β) → Option β) (c66 : {β : Type} → (Int × (Int × (Int × Int))) → (Bool → Option β) → Option β) {β : Type} (x : ST.dens (f27_S (f27_s c16 c63 c64 c66)).params × BT.dens (f27_S (f27_s c16 c63 c64 c66)).ins) (k : ST.dens (f27_S (f27_s c16 c63 c64 c66)).res × BT.dens (f27_S (f27_s c16 c63 c64 c66)).outs → Option β) : (f27_S (f27_s c16 c63 c64 c66)).run x k =
    exec ⟨look tab, pick1 [(16, f16_S c16), (63, f63_S c63), (64, f64_S c64), (66, f66_S c66)]⟩ 68 (pick1 []) 1 (bodyOf Try.f27) ((vIn (f27_S (f27_s c16 c63 c64 c66))).mk' x) (retK (look tab) (f27_S (f27_s c16 c63 c64 c66)) [.cell 6 45] k) := by kernel_rfl

theorem f27_ok' (c16 : {β : Type} → Int → Int → (Int → Int → Option β) → Option β) (c63 : {β : Type} → Int → Int → Int → (Bool → Option β) → Option β) (c64 : {β : Type} → Int → (Bool → Option β) → Option β) (c66 : {β : Type} → (Int × (Int × (Int × Int))) → (Bool → Option β) → Option β) (hΓ : ΓOk Try.prog (pick1 [(16, f16_S c16), (63, f63_S c63), (64, f64_S c64), (66, f66_S c66)])) : SpecOk Try.prog 27 (f27_S (f27_s c16 c63 c64 c66)) :=
  spec_exec (X := ⟨look tab, pick1 [(16, f16_S c16), (63, f63_S c63), (64, f64_S c64), (66, f66_S c66)]⟩) (Λ := pick1 []) (rs := [.cell 6 45]) (c := bodyOf Try.f27) mixed tab_ok hΓ Try.func27 (by kernel_rfl) (by kernel_rfl) (by kernel_rfl) (by kernel_rfl) CutsOk_nil (fun x k r h => (f27_eq c16 c63 c64 c66 x k).symm.trans h)

theorem f27_ok (c16 : {β : Type} → Int → Int → (Int → Int → Option β) → Option β) (c63 : {β : Type} → Int → Int → Int → (Bool → Option β) → Option β) (c64 : {β : Type} → Int → (Bool → Option β) → Option β) (c66 : {β : Type} → (Int × (Int × (Int × Int))) → (Bool → Option β) → Option β) (hΓ : ΓOk Try.prog (pick1 [(16, f16_S c16), (63, f63_S c63), (64, f64_S c64), (66, f66_S c66)])) : SpecOk Try.prog 27 (f27_S (f27_c c16 c63 c64 c66)) :=
  f27_ok' c16 c63 c64 c66 hΓ

/-- pagewatch/pagewatchlaw38.sane -/
def f17_s {β : Type} (c16 : {β : Type} → Int → Int → (Int → Int → Option β) → Option β) (c27 : {β : Type} → (List UInt8 × Int) → (Int × (Int × (Int × Int))) → Int → ((Int × Int) → Option β) → Option β) (k : (Bool → Option β)) : Option β :=
  c16 (100000 : Int) (100 : Int) (fun (rElapsed : Int) (rElapsed2 : Int) =>
  c27 (([] : List UInt8), (100000 : Int)) ((0 : Int), ((1000 : Int), ((5000 : Int), (5010 : Int)))) (1100 : Int) (fun (rFrom : (Int × Int)) =>
  cond (decide (rElapsed = (90 : Int)))
  (cond (decide (rElapsed2 = (112 : Int)))
  (cond (decide (rFrom.1 = (5090 : Int)))
  (let t : Bool := (decide (rFrom.2 = (5122 : Int)));
  k t)
  (k false))
  (k false))
  (k false)))

def f17_c {β : Type} (c16 : {β : Type} → Int → Int → (Int → Int → Option β) → Option β) (c27 : {β : Type} → (List UInt8 × Int) → (Int × (Int × (Int × Int))) → Int → ((Int × Int) → Option β) → Option β) (k : (Bool → Option β)) : Option β := f17_s c16 c27  k

def f17_S (c : {β : Type} → (Bool → Option β) → Option β) : Spec :=
  ⟨[], [], [(false, [.data .bool])], [], fun x k => c  (fun r0 => k (((r0, ()), ()), ()))⟩

theorem f17_eq (c16 : {β : Type} → Int → Int → (Int → Int → Option β) → Option β) (c27 : {β : Type} → (List UInt8 × Int) → (Int × (Int × (Int × Int))) → Int → ((Int × Int) → Option β) → Option β) {β : Type} (x : ST.dens (f17_S (f17_s c16 c27)).params × BT.dens (f17_S (f17_s c16 c27)).ins) (k : ST.dens (f17_S (f17_s c16 c27)).res × BT.dens (f17_S (f17_s c16 c27)).outs → Option β) : (f17_S (f17_s c16 c27)).run x k =
    exec ⟨look tab, pick1 [(16, f16_S c16), (27, f27_S c27)]⟩ 27 (pick1 []) 1 (bodyOf Try.f17) ((vIn (f17_S (f17_s c16 c27))).mk' x) (retK (look tab) (f17_S (f17_s c16 c27)) [.tmp 0] k) := by kernel_rfl

theorem f17_ok' (c16 : {β : Type} → Int → Int → (Int → Int → Option β) → Option β) (c27 : {β : Type} → (List UInt8 × Int) → (Int × (Int × (Int × Int))) → Int → ((Int × Int) → Option β) → Option β) (hΓ : ΓOk Try.prog (pick1 [(16, f16_S c16), (27, f27_S c27)])) : SpecOk Try.prog 17 (f17_S (f17_s c16 c27)) :=
  spec_exec (X := ⟨look tab, pick1 [(16, f16_S c16), (27, f27_S c27)]⟩) (Λ := pick1 []) (rs := [.tmp 0]) (c := bodyOf Try.f17) mixed tab_ok hΓ Try.func17 (by kernel_rfl) (by kernel_rfl) (by kernel_rfl) (by kernel_rfl) CutsOk_nil (fun x k r h => (f17_eq c16 c27 x k).symm.trans h)

theorem f17_ok (c16 : {β : Type} → Int → Int → (Int → Int → Option β) → Option β) (c27 : {β : Type} → (List UInt8 × Int) → (Int × (Int × (Int × Int))) → Int → ((Int × Int) → Option β) → Option β) (hΓ : ΓOk Try.prog (pick1 [(16, f16_S c16), (27, f27_S c27)])) : SpecOk Try.prog 17 (f17_S (f17_c c16 c27)) :=
  f17_ok' c16 c27 hΓ

def p3_511_s {β : Type} (c16 : {β : Type} → Int → Int → (Int → Int → Option β) → Option β) (c17 : {β : Type} → (Bool → Option β) → Option β) (k1 : (Bool → Option β)) (y : Int) (low : Int) (high : Int) (l : Int) (h : Int) (p : Int) (q : Int) (u : Int) (v : Int) (exact : Bool) : Option β :=
  cond exact
  (cond (decide (low ≤ l))
  (cond (decide (high ≤ h))
  (cond (decide (p ≤ low))
  (cond (decide (high ≤ q))
  (cond (decide (u = y))
  (cond (decide (v = y))
  (c17  (fun (rsane : Bool) =>
  k1 rsane))
  (k1 false))
  (k1 false))
  (k1 false))
  (k1 false))
  (k1 false))
  (k1 false))
  (k1 false)

def p3_511_c {β : Type} (c16 : {β : Type} → Int → Int → (Int → Int → Option β) → Option β) (c17 : {β : Type} → (Bool → Option β) → Option β) (k1 : (Bool → Option β)) (y : Int) (low : Int) (high : Int) (l : Int) (h : Int) (p : Int) (q : Int) (u : Int) (v : Int) (exact : Bool) : Option β := p3_511_s c16 c17 k1 y low high l h p q u v exact

def p3_511_v : View := ⟨0, [10, 12, 13, 14, 15, 16, 17, 18, 19, 20], [(false, [.data (.int .i64)]), (false, [.data (.int .i64)]), (false, [.data (.int .i64)]), (false, [.data (.int .i64)]), (false, [.data (.int .i64)]), (false, [.data (.int .i64)]), (false, [.data (.int .i64)]), (false, [.data (.int .i64)]), (false, [.data (.int .i64)]), (false, [.data .bool])], []⟩

def p3_511_o : List (AExit × View) := [(.ret, ⟨0, [8], [(false, [.data .bool])], []⟩)]

/-- pagewatch/pagewatchlaw38.ClockWidens -/
def f3_s {β : Type} (c16 : {β : Type} → Int → Int → (Int → Int → Option β) → Option β) (c17 : {β : Type} → (Bool → Option β) → Option β) (p3_511 : {β : Type} → (Bool → Option β) → Int → Int → Int → Int → Int → Int → Int → Int → Int → Bool → Option β) (a : Int) (b : Int) (drift : Int) (more : Int) (k : (Bool → Option β)) : Option β :=
  cond (!decide ((500001 : Int) = 0))
  (let x : Int := (Int.tmod (IntKind.i64.wrap drift) (500001 : Int));
  cond (!decide ((1000 : Int) = 0))
  (let z : Int := (if (500000 : Int) < (IntKind.i64.wrap (x + (Int.tmod (IntKind.i64.wrap more) (1000 : Int)))) then (500000 : Int) else (IntKind.i64.wrap (x + (Int.tmod (IntKind.i64.wrap more) (1000 : Int)))));
  c16 x (IntKind.i64.wrap a) (fun (rElapsed : Int) (rElapsed2 : Int) =>
  cond (!decide ((1000 : Int) = 0))
  (c16 x (IntKind.i64.wrap ((IntKind.i64.wrap a) + (Int.tmod (IntKind.i64.wrap b) (1000 : Int)))) (fun (rElapsed3 : Int) (rElapsed4 : Int) =>
  c16 z (IntKind.i64.wrap a) (fun (rElapsed5 : Int) (rElapsed6 : Int) =>
  c16 (0 : Int) (IntKind.i64.wrap a) (fun (rElapsed7 : Int) (rElapsed8 : Int) =>
  cond (decide ((IntKind.i64.wrap (rElapsed * (IntKind.i64.wrap ((1000000 : Int) + x)))) ≤ (IntKind.i64.wrap ((IntKind.i64.wrap a) * (1000000 : Int)))))
  (cond (decide ((IntKind.i64.wrap ((IntKind.i64.wrap a) * (1000000 : Int))) < (IntKind.i64.wrap ((IntKind.i64.wrap (rElapsed + (1 : Int))) * (IntKind.i64.wrap ((1000000 : Int) + x))))))
  (cond (decide ((IntKind.i64.wrap ((IntKind.i64.wrap a) * (1000000 : Int))) ≤ (IntKind.i64.wrap (rElapsed2 * (IntKind.i64.wrap ((1000000 : Int) - x))))))
  (let exact : Bool := (decide ((IntKind.i64.wrap ((IntKind.i64.wrap (rElapsed2 - (1 : Int))) * (IntKind.i64.wrap ((1000000 : Int) - x)))) < (IntKind.i64.wrap ((IntKind.i64.wrap a) * (1000000 : Int)))));
  p3_511 (fun (t8 : Bool) =>
  k t8) (IntKind.i64.wrap a) rElapsed rElapsed2 rElapsed3 rElapsed4 rElapsed5 rElapsed6 rElapsed7 rElapsed8 exact)
  (p3_511 (fun (t8 : Bool) =>
  k t8) (IntKind.i64.wrap a) rElapsed rElapsed2 rElapsed3 rElapsed4 rElapsed5 rElapsed6 rElapsed7 rElapsed8 false))
  (p3_511 (fun (t8 : Bool) =>
  k t8) (IntKind.i64.wrap a) rElapsed rElapsed2 rElapsed3 rElapsed4 rElapsed5 rElapsed6 rElapsed7 rElapsed8 false))
  (p3_511 (fun (t8 : Bool) =>
  k t8) (IntKind.i64.wrap a) rElapsed rElapsed2 rElapsed3 rElapsed4 rElapsed5 rElapsed6 rElapsed7 rElapsed8 false)))))
  none))
  none)
  none

def f3_c {β : Type} (c16 : {β : Type} → Int → Int → (Int → Int → Option β) → Option β) (c17 : {β : Type} → (Bool → Option β) → Option β) (a : Int) (b : Int) (drift : Int) (more : Int) (k : (Bool → Option β)) : Option β := f3_s c16 c17 (p3_511_c c16 c17) a b drift more k

def f3_S (c : {β : Type} → Int → Int → Int → Int → (Bool → Option β) → Option β) : Spec :=
  ⟨[(false, [.data (.int .u32)]), (false, [.data (.int .u32)]), (false, [.data (.int .u32)]), (false, [.data (.int .u32)])], [], [(false, [.data .bool])], [], fun x k => c x.1.1.1 x.1.2.1.1 x.1.2.2.1.1 x.1.2.2.2.1.1 (fun r0 => k (((r0, ()), ()), ()))⟩

def p3_511_code : Code := codeAt 511 (bodyOf Try.f3)

theorem p3_511_eq (c16 : {β : Type} → Int → Int → (Int → Int → Option β) → Option β) (c17 : {β : Type} → (Bool → Option β) → Option β) {β : Type} (d : p3_511_v.den) (ks : Outs.K β p3_511_o) : p3_511_s c16 c17 (fun a0 => ks.1 (((a0, ()), ()), ())) d.1.1.1 d.1.2.1.1 d.1.2.2.1.1 d.1.2.2.2.1.1 d.1.2.2.2.2.1.1 d.1.2.2.2.2.2.1.1 d.1.2.2.2.2.2.2.1.1 d.1.2.2.2.2.2.2.2.1.1 d.1.2.2.2.2.2.2.2.2.1.1 d.1.2.2.2.2.2.2.2.2.2.1.1 =
    exec ⟨look tab, pick1 [(16, f16_S c16), (17, f17_S c17)]⟩ 129 (pick1 []) 511 p3_511_code (p3_511_v.mk' d) (outK p3_511_o ks) := by kernel_rfl

theorem p3_511_ok (c16 : {β : Type} → Int → Int → (Int → Int → Option β) → Option β) (c17 : {β : Type} → (Bool → Option β) → Option β) (hΓ : ΓOk Try.prog (pick1 [(16, f16_S c16), (17, f17_S c17)])) : PieceOk Try.prog 129 0 p3_511_code p3_511_v p3_511_o (fun {β} d ks => p3_511_s c16 c17 (fun a0 => ks.1 (((a0, ()), ()), ())) d.1.1.1 d.1.2.1.1 d.1.2.2.1.1 d.1.2.2.2.1.1 d.1.2.2.2.2.1.1 d.1.2.2.2.2.2.1.1 d.1.2.2.2.2.2.2.1.1 d.1.2.2.2.2.2.2.2.1.1 d.1.2.2.2.2.2.2.2.2.1.1 d.1.2.2.2.2.2.2.2.2.2.1.1) :=
  piece_exec (X := ⟨look tab, pick1 [(16, f16_S c16), (17, f17_S c17)]⟩) (p := 511) (Λ := pick1 []) (v := p3_511_v) (outs := p3_511_o) mixed tab_ok hΓ (by kernel_rfl) CutsOk_nil (fun d ks r h => (p3_511_eq c16 c17 d ks).symm.trans h)

theorem f3_eq (c16 : {β : Type} → Int → Int → (Int → Int → Option β) → Option β) (c17 : {β : Type} → (Bool → Option β) → Option β) (p3_511 : {β : Type} → (Bool → Option β) → Int → Int → Int → Int → Int → Int → Int → Int → Int → Bool → Option β) {β : Type} (x : ST.dens (f3_S (f3_s c16 c17 p3_511)).params × BT.dens (f3_S (f3_s c16 c17 p3_511)).ins) (k : ST.dens (f3_S (f3_s c16 c17 p3_511)).res × BT.dens (f3_S (f3_s c16 c17 p3_511)).outs → Option β) : (f3_S (f3_s c16 c17 p3_511)).run x k =
    exec ⟨look tab, pick1 [(16, f16_S c16), (17, f17_S c17)]⟩ 129 (pick1 [(511, pieceCut p3_511_v p3_511_o (fun {β} d ks => p3_511 (fun a0 => ks.1 (((a0, ()), ()), ())) d.1.1.1 d.1.2.1.1 d.1.2.2.1.1 d.1.2.2.2.1.1 d.1.2.2.2.2.1.1 d.1.2.2.2.2.2.1.1 d.1.2.2.2.2.2.2.1.1 d.1.2.2.2.2.2.2.2.1.1 d.1.2.2.2.2.2.2.2.2.1.1 d.1.2.2.2.2.2.2.2.2.2.1.1))]) 1 (bodyOf Try.f3) ((vIn (f3_S (f3_s c16 c17 p3_511))).mk' x) (retK (look tab) (f3_S (f3_s c16 c17 p3_511)) [.tmp 8] k) := by kernel_rfl

theorem f3_ok' (c16 : {β : Type} → Int → Int → (Int → Int → Option β) → Option β) (c17 : {β : Type} → (Bool → Option β) → Option β) (hΓ : ΓOk Try.prog (pick1 [(16, f16_S c16), (17, f17_S c17)])) (p3_511 : {β : Type} → (Bool → Option β) → Int → Int → Int → Int → Int → Int → Int → Int → Int → Bool → Option β) (hp3_511 : PieceOk Try.prog 129 0 p3_511_code p3_511_v p3_511_o (fun {β} d ks => p3_511 (fun a0 => ks.1 (((a0, ()), ()), ())) d.1.1.1 d.1.2.1.1 d.1.2.2.1.1 d.1.2.2.2.1.1 d.1.2.2.2.2.1.1 d.1.2.2.2.2.2.1.1 d.1.2.2.2.2.2.2.1.1 d.1.2.2.2.2.2.2.2.1.1 d.1.2.2.2.2.2.2.2.2.1.1 d.1.2.2.2.2.2.2.2.2.2.1.1)) : SpecOk Try.prog 3 (f3_S (f3_s c16 c17 p3_511)) :=
  spec_exec (X := ⟨look tab, pick1 [(16, f16_S c16), (17, f17_S c17)]⟩) (Λ := pick1 [(511, pieceCut p3_511_v p3_511_o (fun {β} d ks => p3_511 (fun a0 => ks.1 (((a0, ()), ()), ())) d.1.1.1 d.1.2.1.1 d.1.2.2.1.1 d.1.2.2.2.1.1 d.1.2.2.2.2.1.1 d.1.2.2.2.2.2.1.1 d.1.2.2.2.2.2.2.1.1 d.1.2.2.2.2.2.2.2.1.1 d.1.2.2.2.2.2.2.2.2.1.1 d.1.2.2.2.2.2.2.2.2.2.1.1))]) (rs := [.tmp 8]) (c := bodyOf Try.f3) mixed tab_ok hΓ Try.func3 (by kernel_rfl) (by kernel_rfl) (by kernel_rfl) (by kernel_rfl) (CutsOk_cons (q := 511) (c' := p3_511_code) (v := p3_511_v) (outs := p3_511_o) (G := (fun {β} d ks => p3_511 (fun a0 => ks.1 (((a0, ()), ()), ())) d.1.1.1 d.1.2.1.1 d.1.2.2.1.1 d.1.2.2.2.1.1 d.1.2.2.2.2.1.1 d.1.2.2.2.2.2.1.1 d.1.2.2.2.2.2.2.1.1 d.1.2.2.2.2.2.2.2.1.1 d.1.2.2.2.2.2.2.2.2.1.1 d.1.2.2.2.2.2.2.2.2.2.1.1)) (by kernel_rfl) rfl hp3_511 CutsOk_nil) (fun x k r h => (f3_eq c16 c17 p3_511 x k).symm.trans h)

theorem f3_ok (c16 : {β : Type} → Int → Int → (Int → Int → Option β) → Option β) (c17 : {β : Type} → (Bool → Option β) → Option β) (hΓ : ΓOk Try.prog (pick1 [(16, f16_S c16), (17, f17_S c17)])) : SpecOk Try.prog 3 (f3_S (f3_c c16 c17)) :=
  f3_ok' c16 c17 hΓ (p3_511_c c16 c17) (p3_511_ok c16 c17 hΓ)

end
end Go.Lift
