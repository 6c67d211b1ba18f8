/- Part7: Fn1, Fn2, LBase, LInc1. -/
import Derived.Test.YthliedaegjdljaaGreatProg
import Derived.Test.YthliedaegjdljaaGreatPart6
set_option linter.unusedVariables false
set_option linter.unusedSimpArgs false
namespace Go.Lift
open Go.Proofs
noncomputable section
set_option maxRecDepth 100000
set_option linter.unusedVariables false
abbrev zqyn := {β : Type} → zqq → (Bool → Option β) → Option β
def zqyo (c : zqyn) : Spec :=
 ⟨[b33y], [], [b25y], [], fun x k => c x.1.1.1 (fun r0 => k (((r0, ()), ()), ()))⟩
abbrev zqyp (β : Type) := Bool → Option β
abbrev zqyq (β : Type) := Int → zqq → Option β
abbrev zqyr (β : Type) := Int → Int → t17y → Int → Int → zqq → Option β
abbrev zqys := {β : Type} → zqyp β → zqyq β → zqyr β
noncomputable def zqyt : Pc := ⟨54, 0, codeAt 58 (bodyOf Tryz.f69), ⟨0, [1, 3, 4, 10, 11, 12], [b23y, b21y, b21y, b32y, b21y, b21y], [b24y]⟩, [(.ret, ⟨0, [2], [b25y], []⟩), (.exit 0, ⟨0, [1, 4], [b23y, b21y], [b24y]⟩)]⟩
@[reducible] def zqyu (p : zqys) : zqyt.G := fun d ks => p (fun a0 => ks.1 (((a0, ()), ()), ())) (fun a0 a1 => ks.2.1 (((), (a0, ()), ()), ((a1, ()), ()))) d.1.2.1.1 d.1.2.2.1.1 d.1.2.2.2.1.1 d.1.2.2.2.2.1.1 d.1.2.2.2.2.2.1.1 d.2.1.1
section
variable (zqy0 : zqda) (zqym : zqwy)
@[reducible] def zqyv : Ctx := cx [(62, .spec (zqdb zqy0)), (64, .spec (zqwz zqym))]
def zqyw {β : Type} (rec : zqyr β) (k1 : zqyp β) (k2 : zqyq β) : zqyr β := fun at_ state t10 t11 t12 x =>
 cond (decide (t12 < t11))
 (cond (decide (0 ≤ t12) && decide (t12 < (List.length t10 : Int)))
 (let e : t7y := List.getD t10 (Int.toNat t12) ((0 : Int), ((0 : Int), (0 : Int)));
 zqy0 e.1 at_ (8589934592 : Int) (fun (rin : Bool) =>
 cond (!rin)
 (k1 false)
 (zqy0 e.2.1 (0 : Int) (4 : Int) (fun (rin2 : Bool) =>
 cond (!rin2)
 (k1 false)
 (cond (decide (e.2.1 = state))
 (k1 false)
 (zqym e.2.2 (fun (rsomebody : Bool) =>
 cond (!rsomebody)
 (k1 false)
 (rec e.1 e.2.1 t10 t11 (IntKind.i64.wrap (t12 + (1 : Int))) x))))))))
 none)
 (k2 state x)
def zqyx {β : Type} (i : Nat) (k1 : zqyp β) (k2 : zqyq β) := lp6 (fun r => zqyw zqy0 zqym r k1 k2) none i
theorem zqyy (hΓ : GO (zqyv zqy0 zqym)) (i : Nat) : OK zqyt (zqyu (zqyx zqy0 zqym i)) :=
 pcL mixed (zqyv zqy0 zqym) tab_ok hΓ (G := fun i => @fun β d ks => zqyu (zqyx zqy0 zqym i) d ks) (pick1 []) (by kernel_rfl) rfl (by kernel_rfl) CutsOk_nil (fun _ _ => rfl) (fun _ _ _ _ => by kernel_rfl) i
def zqyz (p1 : zqys) : zqyn := fun x k =>
 p1 (fun (t2 : Bool) =>
 k t2) (fun (state : Int) (x2 : zqq) =>
 cond (decide ((List.length x2.2.2.2.2.2.2.2.2.2.2.1 : Int) ≤ (32 : Int)))
 (let t : Bool := (decide (x2.2.1 = state));
 k t)
 (k false)) x.2.2.2.1 (0 : Int) x.2.2.2.2.2.2.2.2.2.2.1 (List.length x.2.2.2.2.2.2.2.2.2.2.1 : Int) (0 : Int) x
theorem zqz0 (hΓ : GO (zqyv zqy0 zqym)) (p1 : zqys) (hp1 : OK zqyt (zqyu p1)) : SpecOk Tryz.prog 69 (zqyo (zqyz p1)) :=
 pcS mixed (zqyv zqy0 zqym) tab_ok hΓ (pick1 [(58, zqyt.cut (zqyu p1))]) [.tmp 2] Tryz.func69 (by kernel_rfl) (by kernel_rfl) (by kernel_rfl) (by kernel_rfl) (CutsOk_cons (by kernel_rfl) rfl hp1 CutsOk_nil) (fun _ _ => by kernel_rfl)
end
theorem zqz1Γ : GO (zqyv zqdg zqx4) := (ΓOk_cons zqdh (ΓOk_cons zqx5 ΓOk_nil))
def zqz2 (m : Nat) : zqys := zqyx zqdg zqx4 m
theorem zqz3 {β : Type} (i : Nat) (k1 k2) : zqz2 (β := β) (i + 1) k1 k2 = zqyw zqdg zqx4 (zqz2 i k1 k2) k1 k2 := rfl
def zqz4 : zqys := zqz2 fuel
theorem zqz5 : OK zqyt (zqyu zqz4) := zqyy zqdg zqx4 zqz1Γ fuel
def zqz6 : zqyn := zqyz zqz4
theorem zqz7 : SpecOk Tryz.prog 69 (zqyo zqz6) := zqz0 zqdg zqx4 zqz1Γ zqz4 zqz5
abbrev zqz8 := {β : Type} → t0y → (Int → Option β) → Option β
def zqz9 (c : zqz8) : Spec :=
 ⟨[b35y], [], [b21y], [], fun x k => c x.1.1.1 (fun r0 => k (((r0, ()), ()), ()))⟩
section
variable (zq1od : zqns)
@[reducible] def zqza : Ctx := cx [(135, .spec (zqnt zq1od))]
def zqzb : zqz8 := fun x k =>
 zq1od x.1 (fun (rWeekday : Int) =>
 let t : Int := (IntKind.i64.wrap ((IntKind.i64.wrap (rWeekday * (86400 : Int))) + x.2));
 k t)
theorem zqzc (hΓ : GO (zqza zq1od)) : SpecOk Tryz.prog 121 (zqz9 (zqzb zq1od)) :=
 pcS mixed (zqza zq1od) tab_ok hΓ (pick1 []) [.tmp 2] Tryz.func121 (by kernel_rfl) (by kernel_rfl) (by kernel_rfl) (by kernel_rfl) CutsOk_nil (fun _ _ => by kernel_rfl)
end
theorem zqzdΓ : GO (zqza zqny) := (ΓOk_cons zqnz ΓOk_nil)
def zqze : zqz8 := zqzb zqny
theorem zqzf : SpecOk Tryz.prog 121 (zqz9 zqze) := zqzc zqny zqzdΓ
abbrev zqzg := {β : Type} → (Int → Option β) → Option β
def zqzh (c : zqzg) : Spec :=
 ⟨[], [], [b21y], [], fun x k => c  (fun r0 => k (((r0, ()), ()), ()))⟩
section
variable (zq1oe : zqol)
@[reducible] def zqzi : Ctx := cx [(140, .spec (zqom zq1oe))]
def zqzj : zqzg := fun k =>
 zq1oe (2241 : Int) (fun (ryear : Int) =>
 let t : Int := (IntKind.i64.wrap (ryear - (1 : Int)));
 k t)
theorem zqzk (hΓ : GO (zqzi zq1oe)) : SpecOk Tryz.prog 130 (zqzh (zqzj zq1oe)) :=
 pcS mixed (zqzi zq1oe) tab_ok hΓ (pick1 []) [.tmp 0] Tryz.func130 (by kernel_rfl) (by kernel_rfl) (by kernel_rfl) (by kernel_rfl) CutsOk_nil (fun _ _ => by kernel_rfl)
end
theorem zqzlΓ : GO (zqzi zqor) := (ΓOk_cons zqos ΓOk_nil)
def zqzm : zqzg := zqzj zqor
theorem zqzn : SpecOk Tryz.prog 130 (zqzh zqzm) := zqzk zqor zqzlΓ
abbrev zqzo := {β : Type} → zqi → zq8 → (Int → Option β) → Option β
def zqzp (c : zqzo) : Spec :=
 ⟨[b36y, b61y], [], [b21y], [], fun x k => c x.1.1.1 x.1.2.1.1 (fun r0 => k (((r0, ()), ()), ()))⟩
abbrev zqzq (β : Type) := Int → Option β
abbrev zqzr (β : Type) := zqi → zq8 → Option β
abbrev zqzs (β : Type) := Int → zqi → zq8 → Option β
abbrev zqzt := {β : Type} → zqzq β → zqzr β → zqzs β
noncomputable def zqzu : Pc := ⟨102, 0, codeAt 58 (bodyOf Tryz.f131), ⟨0, [2, 3, 5], [b23y, b27y, b21y], [b29y, b42y]⟩, [(.ret, ⟨0, [4], [b21y], []⟩), (.exit 1, ⟨0, [2, 3], [b23y, b27y], [b29y, b42y]⟩)]⟩
@[reducible] def zqzv (p : zqzt) : zqzu.G := fun d ks => p (fun a0 => ks.1 (((a0, ()), ()), ())) (fun a0 a1 => ks.2.1 (((), (), ()), ((a0, ()), (a1, ()), ()))) d.1.2.2.1.1 d.2.1.1 d.2.2.1.1
abbrev zqzw (β : Type) := Int → Option β
abbrev zqzx (β : Type) := Unit → Option β
abbrev zqzy (β : Type) := Bool → zq8 → Option β
abbrev zqzz := {β : Type} → zqzw β → zqzx β → zqzy β
noncomputable def zq100 : Pc := ⟨102, 0, codeAt 1951 (bodyOf Tryz.f131), ⟨0, [3, 79], [b23y, b25y], [b42y]⟩, [(.ret, ⟨0, [4], [b21y], []⟩), (.normal, ⟨0, [], [], []⟩)]⟩
@[reducible] def zq101 (p : zqzz) : zq100.G := fun d ks => p (fun a0 => ks.1 (((a0, ()), ()), ())) (fun _ => ks.2.1 ((), ())) d.1.2.1.1 d.2.1.1
abbrev zq102 (β : Type) := Int → Option β
abbrev zq103 (β : Type) := zqi → zq8 → Option β
abbrev zq104 := {β : Type} → zq102 β → zq103 β
noncomputable def zq105 : Pc := ⟨102, 0, codeAt 7 (bodyOf Tryz.f131), ⟨0, [2, 3], [b23y, b27y], [b29y, b42y]⟩, [(.ret, ⟨0, [4], [b21y], []⟩)]⟩
@[reducible] def zq106 (p : zq104) : zq105.G := fun d ks => p (fun a0 => ks.1 (((a0, ()), ()), ())) d.2.1.1 d.2.2.1.1
abbrev zq107 (β : Type) := Int → Option β
abbrev zq108 (β : Type) := zqi → zq8 → Option β
abbrev zq109 (β : Type) := Bool → zqi → zq8 → Option β
abbrev zq10a := {β : Type} → zq107 β → zq108 β → zq109 β
noncomputable def zq10b : Pc := ⟨102, 0, codeAt 103 (bodyOf Tryz.f131), ⟨0, [2, 3, 15], [b23y, b27y, b25y], [b29y, b42y]⟩, [(.ret, ⟨0, [4], [b21y], []⟩), (.normal, ⟨0, [2, 3], [b23y, b27y], [b29y, b42y]⟩)]⟩
@[reducible] def zq10c (p : zq10a) : zq10b.G := fun d ks => p (fun a0 => ks.1 (((a0, ()), ()), ())) (fun a0 a1 => ks.2.1 (((), (), ()), ((a0, ()), (a1, ()), ()))) d.1.2.2.1.1 d.2.1.1 d.2.2.1.1
section
variable (zq1of : zqzg) (zq1og : zqka) (zqy6 : zqn4)
@[reducible] def zq10d : Ctx := cx [(130, .spec (zqzh zq1of)), (106, .spec (zqkb zq1og)), (128, .spec (zqn5 zqy6))]
def zq10e {β : Type} (rec : zqzs β) (k1 : zqzq β) (k2 : zqzr β) : zqzs β := fun i_ c l =>
 cond (decide (i_ < (List.length l.2.2.2.2.2.1 : Int)))
 (cond (decide (0 ≤ i_) && decide (i_ < (List.length l.2.2.2.2.2.1 : Int)))
 (let e : Int := List.getD l.2.2.2.2.2.1 (Int.toNat i_) (0 : Int);
 zqy6 e (0 : Int) (IntKind.i64.wrap ((List.length c.2.1 : Int) - (1 : Int))) (fun (rin : Bool) =>
 cond (!rin)
 (k1 (3 : Int))
 (let i_2 : Int := (IntKind.i64.wrap (i_ + (1 : Int)));
 rec i_2 c l)))
 none)
 (k2 c l)
def zq10f {β : Type} (i : Nat) (k1 : zqzq β) (k2 : zqzr β) := lp3 (fun r => zq10e zqy6 r k1 k2) none i
theorem zq10g (hΓ : GO (zq10d zq1of zq1og zqy6)) (i : Nat) : OK zqzu (zqzv (zq10f zqy6 i)) :=
 pcL mixed (zq10d zq1of zq1og zqy6) tab_ok hΓ (G := fun i => @fun β d ks => zqzv (zq10f zqy6 i) d ks) (pick1 []) (by kernel_rfl) rfl (by kernel_rfl) CutsOk_nil (fun _ _ => rfl) (fun _ _ _ _ => by kernel_rfl) i
def zq10h {β : Type} (k1 : zqzw β) (k2 : zqzx β) : zqzy β := fun t79 l =>
 cond t79
 (k1 (3 : Int))
 (cond (decide (l.2.2.2.2.2.2.2.2 = (0 : Int)))
 (let t : Bool := (!decide (l.2.2.2.2.2.2.2.1 = (0 : Int)));
 cond t
 (k1 (1 : Int))
 (k2 ()))
 (k2 ()))
def zq10i {β : Type} (k1 : zqzw β) (k2 : zqzx β) : zqzy β := zq10h k1 k2
theorem zq10j (hΓ : GO (zq10d zq1of zq1og zqy6)) : OK zq100 (zq101 (zq10i)) :=
 pcE mixed (zq10d zq1of zq1og zqy6) tab_ok hΓ 1951 (pick1 []) (by kernel_rfl) CutsOk_nil (fun _ _ => by kernel_rfl)
def zq10k (p1 : zqzt) (p2 : zqzz) {β : Type} (k1 : zq102 β) : zq103 β := fun c l =>
 p1 (fun (t4 : Int) =>
 k1 t4) (fun (c2 : zqi) (l2 : zq8) =>
 zq1og l2.2.2.2.2.2.2.1 (fun (rCheck : Int) =>
 let t : Bool := (!decide (rCheck = (0 : Int)));
 cond t
 (k1 (8 : Int))
 (zqy6 l2.2.2.2.2.2.2.2.2 (0 : Int) (2 : Int) (fun (rin : Bool) =>
 cond (!rin)
 (k1 (1 : Int))
 (cond (!decide (l2.2.2.2.2.2.2.2.2 = (0 : Int)))
 (zqy6 l2.2.2.2.2.2.2.2.1 (0 : Int) (IntKind.i64.wrap ((List.length c2.2.2.1 : Int) - (1 : Int))) (fun (rin2 : Bool) =>
 p2 (fun (t4 : Int) =>
 k1 t4) (fun (_ : Unit) =>
 k1 (0 : Int)) (!rin2) l2))
 (p2 (fun (t4 : Int) =>
 k1 t4) (fun (_ : Unit) =>
 k1 (0 : Int)) false l2)))))) (0 : Int) c l
def zq10l (p1 : zqzt) (p2 : zqzz) {β : Type} (k1 : zq102 β) : zq103 β := zq10k zq1og zqy6 p1 p2 k1
theorem zq10m (hΓ : GO (zq10d zq1of zq1og zqy6)) (p1 : zqzt) (p2 : zqzz) (hp1 : OK zqzu (zqzv p1)) (hp2 : OK zq100 (zq101 p2)) : OK zq105 (zq106 (zq10l zq1og zqy6 p1 p2)) :=
 pcE mixed (zq10d zq1of zq1og zqy6) tab_ok hΓ 7 (pick1 [(58, zqzu.cut (zqzv p1)), (1951, zq100.cut (zq101 p2))]) (by kernel_rfl) (CutsOk_cons (by kernel_rfl) rfl hp1 (CutsOk_cons (by kernel_rfl) rfl hp2 CutsOk_nil)) (fun _ _ => by kernel_rfl)
def zq10n {β : Type} (k1 : zq107 β) (k2 : zq108 β) : zq109 β := fun t15 c l =>
 cond t15
 (k1 (1 : Int))
 (let t : Bool := (decide ((List.length l.2.2.2.2.2.1 : Int) = (0 : Int)));
 cond t
 (k1 (7 : Int))
 (let t2 : Bool := (decide ((12 : Int) < (List.length l.2.2.2.2.2.1 : Int)));
 cond t2
 (k1 (5 : Int))
 (k2 c l)))
def zq10o {β : Type} (k1 : zq107 β) (k2 : zq108 β) : zq109 β := zq10n k1 k2
theorem zq10p (hΓ : GO (zq10d zq1of zq1og zqy6)) : OK zq10b (zq10c (zq10o)) :=
 pcE mixed (zq10d zq1of zq1og zqy6) tab_ok hΓ 103 (pick1 []) (by kernel_rfl) CutsOk_nil (fun _ _ => by kernel_rfl)
def zq10q (p3 : zq104) (p4 : zq10a) : zqzo := fun c l k =>
 zqy6 l.2.1 (0 : Int) (IntKind.i64.wrap ((List.length c.1 : Int) - (1 : Int))) (fun (rin : Bool) =>
 cond (!rin)
 (k (3 : Int))
 (zq1of  (fun (rMaxDay : Int) =>
 zqy6 l.2.2.1.1 (1 : Int) rMaxDay (fun (rin2 : Bool) =>
 cond (!rin2)
 (p4 (fun (t4 : Int) =>
 k t4) (fun (c2 : zqi) (l2 : zq8) =>
 p3 (fun (t4 : Int) =>
 k t4) c2 l2) true c l)
 (zqy6 l.2.2.1.2 (0 : Int) (86399 : Int) (fun (rin3 : Bool) =>
 cond (!rin3)
 (p4 (fun (t4 : Int) =>
 k t4) (fun (c2 : zqi) (l2 : zq8) =>
 p3 (fun (t4 : Int) =>
 k t4) c2 l2) true c l)
 (zqy6 l.2.2.2.1 (0 : Int) (2 : Int) (fun (rin4 : Bool) =>
 cond (!rin4)
 (p4 (fun (t4 : Int) =>
 k t4) (fun (c2 : zqi) (l2 : zq8) =>
 p3 (fun (t4 : Int) =>
 k t4) c2 l2) true c l)
 (zqy6 l.2.2.2.2.1 (1 : Int) (400 : Int) (fun (rin5 : Bool) =>
 p4 (fun (t4 : Int) =>
 k t4) (fun (c2 : zqi) (l2 : zq8) =>
 p3 (fun (t4 : Int) =>
 k t4) c2 l2) (!rin5) c l))))))))))
theorem zq10r (hΓ : GO (zq10d zq1of zq1og zqy6)) (p3 : zq104) (p4 : zq10a) (hp3 : OK zq105 (zq106 p3)) (hp4 : OK zq10b (zq10c p4)) : SpecOk Tryz.prog 131 (zqzp (zq10q zq1of zqy6 p3 p4)) :=
 pcS mixed (zq10d zq1of zq1og zqy6) tab_ok hΓ (pick1 [(7, zq105.cut (zq106 p3)), (103, zq10b.cut (zq10c p4))]) [.tmp 4] Tryz.func131 (by kernel_rfl) (by kernel_rfl) (by kernel_rfl) (by kernel_rfl) (CutsOk_cons (by kernel_rfl) rfl hp3 (CutsOk_cons (by kernel_rfl) rfl hp4 CutsOk_nil)) (fun _ _ => by kernel_rfl)
end
theorem zq10sΓ : GO (zq10d zqzm zqkt zqna) := (ΓOk_cons zqzn (ΓOk_cons zqku (ΓOk_cons zqnb ΓOk_nil)))
def zq10t (m : Nat) : zqzt := zq10f zqna m
theorem zq10u {β : Type} (i : Nat) (k1 k2) : zq10t (β := β) (i + 1) k1 k2 = zq10e zqna (zq10t i k1 k2) k1 k2 := rfl
def zq10v : zqzt := zq10t fuel
theorem zq10w : OK zqzu (zqzv zq10v) := zq10g zqzm zqkt zqna zq10sΓ fuel
def zq10x : zqzz := zq10i
theorem zq10y : OK zq100 (zq101 zq10x) := zq10j zqzm zqkt zqna zq10sΓ
def zq10z : zq104 := zq10l zqkt zqna zq10v zq10x
theorem zq110 : OK zq105 (zq106 zq10z) := zq10m zqzm zqkt zqna zq10sΓ zq10v zq10x zq10w zq10y
def zq111 : zq10a := zq10o
theorem zq112 : OK zq10b (zq10c zq111) := zq10p zqzm zqkt zqna zq10sΓ
def zq113 : zqzo := zq10q zqzm zqna zq10z zq111
theorem zq114 : SpecOk Tryz.prog 131 (zqzp zq113) := zq10r zqzm zqkt zqna zq10sΓ zq10z zq111 zq110 zq112
abbrev zq115 := {β : Type} → zqi → zqa → (Int → Option β) → Option β
def zq116 (c : zq115) : Spec :=
 ⟨[b36y, (true, [.data zqb])], [], [b21y], [], fun x k => c x.1.1.1 x.1.2.1.1 (fun r0 => k (((r0, ()), ()), ()))⟩
abbrev zq117 (β : Type) := Int → Option β
abbrev zq118 (β : Type) := Unit → Option β
abbrev zq119 (β : Type) := Bool → zqa → Option β
abbrev zq11a := {β : Type} → zq117 β → zq118 β → zq119 β
noncomputable def zq11b : Pc := ⟨86, 0, codeAt 14847 (bodyOf Tryz.f132), ⟨0, [3, 64], [b23y, b25y], [b64y]⟩, [(.ret, ⟨0, [4], [b21y], []⟩), (.normal, ⟨0, [], [], []⟩)]⟩
@[reducible] def zq11c (p : zq11a) : zq11b.G := fun d ks => p (fun a0 => ks.1 (((a0, ()), ()), ())) (fun _ => ks.2.1 ((), ())) d.1.2.1.1 d.2.1.1
abbrev zq11d (β : Type) := Int → Option β
abbrev zq11e (β : Type) := Unit → Option β
abbrev zq11f (β : Type) := Bool → zqa → Option β
abbrev zq11g := {β : Type} → zq11d β → zq11e β → zq11f β
noncomputable def zq11h : Pc := ⟨86, 0, codeAt 3711 (bodyOf Tryz.f132), ⟨0, [3, 53], [b23y, b25y], [b64y]⟩, [(.ret, ⟨0, [4], [b21y], []⟩), (.normal, ⟨0, [], [], []⟩)]⟩
@[reducible] def zq11i (p : zq11g) : zq11h.G := fun d ks => p (fun a0 => ks.1 (((a0, ()), ()), ())) (fun _ => ks.2.1 ((), ())) d.1.2.1.1 d.2.1.1
abbrev zq11j (β : Type) := Int → Option β
abbrev zq11k (β : Type) := Unit → Option β
abbrev zq11l (β : Type) := Bool → zqa → Option β
abbrev zq11m := {β : Type} → zq11j β → zq11k β → zq11l β
noncomputable def zq11n : Pc := ⟨86, 0, codeAt 927 (bodyOf Tryz.f132), ⟨0, [3, 44], [b23y, b25y], [b64y]⟩, [(.ret, ⟨0, [4], [b21y], []⟩), (.normal, ⟨0, [], [], []⟩)]⟩
@[reducible] def zq11o (p : zq11m) : zq11n.G := fun d ks => p (fun a0 => ks.1 (((a0, ()), ()), ())) (fun _ => ks.2.1 ((), ())) d.1.2.1.1 d.2.1.1
abbrev zq11p (β : Type) := Int → Option β
abbrev zq11q (β : Type) := Unit → Option β
abbrev zq11r (β : Type) := Bool → zqa → Option β
abbrev zq11s := {β : Type} → zq11p β → zq11q β → zq11r β
noncomputable def zq11t : Pc := ⟨86, 0, codeAt 231 (bodyOf Tryz.f132), ⟨0, [3, 14], [b23y, b25y], [b64y]⟩, [(.ret, ⟨0, [4], [b21y], []⟩), (.normal, ⟨0, [], [], []⟩)]⟩
@[reducible] def zq11u (p : zq11s) : zq11t.G := fun d ks => p (fun a0 => ks.1 (((a0, ()), ()), ())) (fun _ => ks.2.1 ((), ())) d.1.2.1.1 d.2.1.1
section
variable (zq1of : zqzg) (zqy6 : zqn4)
@[reducible] def zq11v : Ctx := cx [(130, .spec (zqzh zq1of)), (128, .spec (zqn5 zqy6))]
def zq11w {β : Type} (k1 : zq117 β) (k2 : zq118 β) : zq119 β := fun t64 x =>
 cond t64
 (k1 (1 : Int))
 (let t : Bool := (decide (x.2.2.2.2 ≤ x.2.2.2.1));
 cond t
 (k1 (6 : Int))
 (k2 ()))
def zq11x {β : Type} (k1 : zq117 β) (k2 : zq118 β) : zq119 β := zq11w k1 k2
theorem zq11y (hΓ : GO (zq11v zq1of zqy6)) : OK zq11b (zq11c (zq11x)) :=
 pcE mixed (zq11v zq1of zqy6) tab_ok hΓ 14847 (pick1 []) (by kernel_rfl) CutsOk_nil (fun _ _ => by kernel_rfl)
def zq11z (p1 : zq11a) {β : Type} (k1 : zq11d β) (k2 : zq11e β) : zq11f β := fun t53 x =>
 cond t53
 (k1 (4 : Int))
 (cond (decide (x.2.2.2.1 < (0 : Int)))
 (p1 (fun (t4 : Int) =>
 k1 t4) (fun (_ : Unit) =>
 k2 ()) true x)
 (cond (decide (x.2.2.2.2 < (0 : Int)))
 (p1 (fun (t4 : Int) =>
 k1 t4) (fun (_ : Unit) =>
 k2 ()) true x)
 (cond (!decide ((86400 : Int) = 0))
 (zq1of  (fun (rMaxDay : Int) =>
 let t : Bool := (decide (rMaxDay < (IntKind.i64.wrap (Int.tdiv x.2.2.2.2 (86400 : Int)))));
 p1 (fun (t4 : Int) =>
 k1 t4) (fun (_ : Unit) =>
 k2 ()) t x))
 none)))
def zq120 (p1 : zq11a) {β : Type} (k1 : zq11d β) (k2 : zq11e β) : zq11f β := zq11z zq1of p1 k1 k2
theorem zq121 (hΓ : GO (zq11v zq1of zqy6)) (p1 : zq11a) (hp1 : OK zq11b (zq11c p1)) : OK zq11h (zq11i (zq120 zq1of p1)) :=
 pcE mixed (zq11v zq1of zqy6) tab_ok hΓ 3711 (pick1 [(14847, zq11b.cut (zq11c p1))]) (by kernel_rfl) (CutsOk_cons (by kernel_rfl) rfl hp1 CutsOk_nil) (fun _ _ => by kernel_rfl)
def zq122 (p2 : zq11g) {β : Type} (k1 : zq11j β) (k2 : zq11k β) : zq11l β := fun t44 x =>
 cond t44
 (k1 (1 : Int))
 (cond (decide (x.1 = (2 : Int)))
 (let t : Bool := (decide (x.2.1 = x.2.2.1));
 p2 (fun (t4 : Int) =>
 k1 t4) (fun (_ : Unit) =>
 k2 ()) t x)
 (p2 (fun (t4 : Int) =>
 k1 t4) (fun (_ : Unit) =>
 k2 ()) false x))
def zq123 (p2 : zq11g) {β : Type} (k1 : zq11j β) (k2 : zq11k β) : zq11l β := zq122 p2 k1 k2
theorem zq124 (hΓ : GO (zq11v zq1of zqy6)) (p2 : zq11g) (hp2 : OK zq11h (zq11i p2)) : OK zq11n (zq11o (zq123 p2)) :=
 pcE mixed (zq11v zq1of zqy6) tab_ok hΓ 927 (pick1 [(3711, zq11h.cut (zq11i p2))]) (by kernel_rfl) (CutsOk_cons (by kernel_rfl) rfl hp2 CutsOk_nil) (fun _ _ => by kernel_rfl)
def zq125 (p3 : zq11m) {β : Type} (k1 : zq11p β) (k2 : zq11q β) : zq11r β := fun t14 x =>
 cond t14
 (k1 (3 : Int))
 (cond (!decide (x.1 = (2 : Int)))
 (let t : Bool := (!decide (x.2.2.1 = (0 : Int)));
 p3 (fun (t4 : Int) =>
 k1 t4) (fun (_ : Unit) =>
 k2 ()) t x)
 (p3 (fun (t4 : Int) =>
 k1 t4) (fun (_ : Unit) =>
 k2 ()) false x))
def zq126 (p3 : zq11m) {β : Type} (k1 : zq11p β) (k2 : zq11q β) : zq11r β := zq125 p3 k1 k2
theorem zq127 (hΓ : GO (zq11v zq1of zqy6)) (p3 : zq11m) (hp3 : OK zq11n (zq11o p3)) : OK zq11t (zq11u (zq126 p3)) :=
 pcE mixed (zq11v zq1of zqy6) tab_ok hΓ 231 (pick1 [(927, zq11n.cut (zq11o p3))]) (by kernel_rfl) (CutsOk_cons (by kernel_rfl) rfl hp3 CutsOk_nil) (fun _ _ => by kernel_rfl)
def zq128 (p4 : zq11s) : zq115 := fun c x k =>
 zqy6 x.1 (0 : Int) (2 : Int) (fun (rin : Bool) =>
 cond (!rin)
 (k (1 : Int))
 (zqy6 x.2.1 (0 : Int) (IntKind.i64.wrap ((List.length c.2.1 : Int) - (1 : Int))) (fun (rin2 : Bool) =>
 cond (!rin2)
 (cond (!decide (x.1 = (1 : Int)))
 (p4 (fun (t4 : Int) =>
 k t4) (fun (_ : Unit) =>
 k (0 : Int)) true x)
 (cond (!decide (x.2.1 = (-1 : Int)))
 (p4 (fun (t4 : Int) =>
 k t4) (fun (_ : Unit) =>
 k (0 : Int)) true x)
 (cond (decide (x.1 = (2 : Int)))
 (zqy6 x.2.2.1 (0 : Int) (IntKind.i64.wrap ((List.length c.2.1 : Int) - (1 : Int))) (fun (rin3 : Bool) =>
 p4 (fun (t4 : Int) =>
 k t4) (fun (_ : Unit) =>
 k (0 : Int)) (!rin3) x))
 (p4 (fun (t4 : Int) =>
 k t4) (fun (_ : Unit) =>
 k (0 : Int)) false x))))
 (cond (decide (x.1 = (2 : Int)))
 (zqy6 x.2.2.1 (0 : Int) (IntKind.i64.wrap ((List.length c.2.1 : Int) - (1 : Int))) (fun (rin3 : Bool) =>
 p4 (fun (t4 : Int) =>
 k t4) (fun (_ : Unit) =>
 k (0 : Int)) (!rin3) x))
 (p4 (fun (t4 : Int) =>
 k t4) (fun (_ : Unit) =>
 k (0 : Int)) false x)))))
theorem zq129 (hΓ : GO (zq11v zq1of zqy6)) (p4 : zq11s) (hp4 : OK zq11t (zq11u p4)) : SpecOk Tryz.prog 132 (zq116 (zq128 zqy6 p4)) :=
 pcS mixed (zq11v zq1of zqy6) tab_ok hΓ (pick1 [(231, zq11t.cut (zq11u p4))]) [.tmp 4] Tryz.func132 (by kernel_rfl) (by kernel_rfl) (by kernel_rfl) (by kernel_rfl) (CutsOk_cons (by kernel_rfl) rfl hp4 CutsOk_nil) (fun _ _ => by kernel_rfl)
end
theorem zq12aΓ : GO (zq11v zqzm zqna) := (ΓOk_cons zqzn (ΓOk_cons zqnb ΓOk_nil))
def zq12b : zq11a := zq11x
theorem zq12c : OK zq11b (zq11c zq12b) := zq11y zqzm zqna zq12aΓ
def zq12d : zq11g := zq120 zqzm zq12b
theorem zq12e : OK zq11h (zq11i zq12d) := zq121 zqzm zqna zq12aΓ zq12b zq12c
def zq12f : zq11m := zq123 zq12d
theorem zq12g : OK zq11n (zq11o zq12f) := zq124 zqzm zqna zq12aΓ zq12d zq12e
def zq12h : zq11s := zq126 zq12f
theorem zq12i : OK zq11t (zq11u zq12h) := zq127 zqzm zqna zq12aΓ zq12f zq12g
def zq12j : zq115 := zq128 zqna zq12h
theorem zq12k : SpecOk Tryz.prog 132 (zq116 zq12j) := zq129 zqzm zqna zq12aΓ zq12h zq12i
abbrev zq12l := {β : Type} → t4y → (Bool → Option β) → Option β
def zq12m (c : zq12l) : Spec :=
 ⟨[b50y], [], [b25y], [], fun x k => c x.1.1.1 (fun r0 => k (((r0, ()), ()), ()))⟩
abbrev zq12n (β : Type) := Bool → Option β
abbrev zq12o (β : Type) := Unit → Option β
abbrev zq12p (β : Type) := t4y → Int → Option β
abbrev zq12q := {β : Type} → zq12n β → zq12o β → zq12p β
noncomputable def zq12r : Pc := ⟨57, 0, codeAt 58 (bodyOf Tryz.f138), ⟨0, [0, 3], [b50y, b21y], []⟩, [(.ret, ⟨0, [2], [b25y], []⟩), (.exit 0, ⟨0, [], [], []⟩)]⟩
@[reducible] def zq12s (p : zq12q) : zq12r.G := fun d ks => p (fun a0 => ks.1 (((a0, ()), ()), ())) (fun _ => ks.2.1 ((), ())) d.1.1.1 d.1.2.1.1
section
variable (zq1oh : zqpl)
@[reducible] def zq12t : Ctx := cx [(144, .spec (zqpm zq1oh))]
def zq12u {β : Type} (rec : zq12p β) (k1 : zq12n β) (k2 : zq12o β) : zq12p β := fun s i_ =>
 cond (decide (i_ < (List.length s : Int)))
 (cond (decide (0 ≤ i_) && decide (i_ < (List.length s : Int)))
 (cond (decide (((List.getD s (Int.toNat i_) 0).toNat : Int) < (97 : Int)))
 (cond (decide (0 ≤ i_) && decide (i_ < (List.length s : Int)))
 (zq1oh ((List.getD s (Int.toNat i_) 0).toNat : Int) (fun (rdigit : Bool) =>
 cond (!rdigit)
 (cond (decide (0 ≤ i_) && decide (i_ < (List.length s : Int)))
 (cond (!decide (((List.getD s (Int.toNat i_) 0).toNat : Int) = (95 : Int)))
 (cond (decide (0 ≤ i_) && decide (i_ < (List.length s : Int)))
 (cond (!decide (((List.getD s (Int.toNat i_) 0).toNat : Int) = (45 : Int)))
 (k1 false)
 (let i_2 : Int := (IntKind.i64.wrap (i_ + (1 : Int)));
 rec s i_2))
 none)
 (let i_2 : Int := (IntKind.i64.wrap (i_ + (1 : Int)));
 rec s i_2))
 none)
 (let i_2 : Int := (IntKind.i64.wrap (i_ + (1 : Int)));
 rec s i_2)))
 none)
 (cond (decide (0 ≤ i_) && decide (i_ < (List.length s : Int)))
 (cond (decide ((122 : Int) < ((List.getD s (Int.toNat i_) 0).toNat : Int)))
 (cond (decide (0 ≤ i_) && decide (i_ < (List.length s : Int)))
 (zq1oh ((List.getD s (Int.toNat i_) 0).toNat : Int) (fun (rdigit : Bool) =>
 cond (!rdigit)
 (cond (decide (0 ≤ i_) && decide (i_ < (List.length s : Int)))
 (cond (!decide (((List.getD s (Int.toNat i_) 0).toNat : Int) = (95 : Int)))
 (cond (decide (0 ≤ i_) && decide (i_ < (List.length s : Int)))
 (cond (!decide (((List.getD s (Int.toNat i_) 0).toNat : Int) = (45 : Int)))
 (k1 false)
 (let i_2 : Int := (IntKind.i64.wrap (i_ + (1 : Int)));
 rec s i_2))
 none)
 (let i_2 : Int := (IntKind.i64.wrap (i_ + (1 : Int)));
 rec s i_2))
 none)
 (let i_2 : Int := (IntKind.i64.wrap (i_ + (1 : Int)));
 rec s i_2)))
 none)
 (let i_2 : Int := (IntKind.i64.wrap (i_ + (1 : Int)));
 rec s i_2))
 none))
 none)
 (k2 ())
def zq12v {β : Type} (i : Nat) (k1 : zq12n β) (k2 : zq12o β) := lp2 (fun r => zq12u zq1oh r k1 k2) none i
theorem zq12w (hΓ : GO (zq12t zq1oh)) (i : Nat) : OK zq12r (zq12s (zq12v zq1oh i)) :=
 pcL mixed (zq12t zq1oh) tab_ok hΓ (G := fun i => @fun β d ks => zq12s (zq12v zq1oh i) d ks) (pick1 []) (by kernel_rfl) rfl (by kernel_rfl) CutsOk_nil (fun _ _ => rfl) (fun _ _ _ _ => by kernel_rfl) i
def zq12x (p1 : zq12q) : zq12l := fun s k =>
 cond (decide ((List.length s : Int) < (1 : Int)))
 (k false)
 (cond (decide ((24 : Int) < (List.length s : Int)))
 (k false)
 (cond (decide (0 ≤ (0 : Int)) && decide ((0 : Int) < (List.length s : Int)))
 (cond (decide (((List.getD s (Int.toNat (0 : Int)) 0).toNat : Int) < (97 : Int)))
 (k false)
 (cond (decide (0 ≤ (0 : Int)) && decide ((0 : Int) < (List.length s : Int)))
 (cond (decide ((122 : Int) < ((List.getD s (Int.toNat (0 : Int)) 0).toNat : Int)))
 (k false)
 (p1 (fun (t2 : Bool) =>
 k t2) (fun (_ : Unit) =>
 k true) s (0 : Int)))
 none))
 none))
theorem zq12y (hΓ : GO (zq12t zq1oh)) (p1 : zq12q) (hp1 : OK zq12r (zq12s p1)) : SpecOk Tryz.prog 138 (zq12m (zq12x p1)) :=
 pcS mixed (zq12t zq1oh) tab_ok hΓ (pick1 [(58, zq12r.cut (zq12s p1))]) [.tmp 2] Tryz.func138 (by kernel_rfl) (by kernel_rfl) (by kernel_rfl) (by kernel_rfl) (CutsOk_cons (by kernel_rfl) rfl hp1 CutsOk_nil) (fun _ _ => by kernel_rfl)
end
theorem zq12zΓ : GO (zq12t zqpr) := (ΓOk_cons zqps ΓOk_nil)
def zq130 (m : Nat) : zq12q := zq12v zqpr m
theorem zq131 {β : Type} (i : Nat) (k1 k2) : zq130 (β := β) (i + 1) k1 k2 = zq12u zqpr (zq130 i k1 k2) k1 k2 := rfl
def zq132 : zq12q := zq130 fuel
theorem zq133 : OK zq12r (zq12s zq132) := zq12w zqpr zq12zΓ fuel
def zq134 : zq12l := zq12x zq132
theorem zq135 : SpecOk Tryz.prog 138 (zq12m zq134) := zq12y zqpr zq12zΓ zq132 zq133
abbrev zq136 := {β : Type} → Int → Int → (Int → Option β) → Option β
def zq137 (c : zq136) : Spec :=
 ⟨[b21y, b21y], [], [b21y], [], fun x k => c x.1.1.1 x.1.2.1.1 (fun r0 => k (((r0, ()), ()), ()))⟩
abbrev zq138 (β : Type) := Int → Option β
abbrev zq139 (β : Type) := Unit → Option β
abbrev zq13a (β : Type) := Int → Int → Bool → Option β
abbrev zq13b := {β : Type} → zq138 β → zq139 β → zq13a β
noncomputable def zq13c : Pc := ⟨23, 0, codeAt 215 (bodyOf Tryz.f152), ⟨0, [0, 5, 14], [b21y, b21y, b25y], []⟩, [(.ret, ⟨0, [4], [b21y], []⟩), (.normal, ⟨0, [], [], []⟩)]⟩
@[reducible] def zq13d (p : zq13b) : zq13c.G := fun d ks => p (fun a0 => ks.1 (((a0, ()), ()), ())) (fun _ => ks.2.1 ((), ())) d.1.1.1 d.1.2.1.1 d.1.2.2.1.1
abbrev zq13e (β : Type) := Int → Option β
abbrev zq13f (β : Type) := Unit → Option β
abbrev zq13g (β : Type) := Int → Int → Bool → Option β
abbrev zq13h := {β : Type} → zq13e β → zq13f β → zq13g β
noncomputable def zq13i : Pc := ⟨23, 0, codeAt 53 (bodyOf Tryz.f152), ⟨0, [0, 5, 6], [b21y, b21y, b25y], []⟩, [(.ret, ⟨0, [4], [b21y], []⟩), (.normal, ⟨0, [], [], []⟩)]⟩
@[reducible] def zq13j (p : zq13h) : zq13i.G := fun d ks => p (fun a0 => ks.1 (((a0, ()), ()), ())) (fun _ => ks.2.1 ((), ())) d.1.1.1 d.1.2.1.1 d.1.2.2.1.1
section
variable (zq1oi : zqq1)
@[reducible] def zq13k : Ctx := cx [(156, .spec (zqq2 zq1oi))]
def zq13l {β : Type} (k1 : zq138 β) (k2 : zq139 β) : zq13a β := fun year t5 t14 =>
 cond t14
 (k1 (30 : Int))
 (let t : Bool := (decide (t5 = (2 : Int)));
 cond t
 (zq1oi year (fun (rLeap : Bool) =>
 cond rLeap
 (k1 (29 : Int))
 (k1 (28 : Int))))
 (k2 ()))
def zq13m {β : Type} (k1 : zq138 β) (k2 : zq139 β) : zq13a β := zq13l zq1oi k1 k2
theorem zq13n (hΓ : GO (zq13k zq1oi)) : OK zq13c (zq13d (zq13m zq1oi)) :=
 pcE mixed (zq13k zq1oi) tab_ok hΓ 215 (pick1 []) (by kernel_rfl) CutsOk_nil (fun _ _ => by kernel_rfl)
def zq13o (p1 : zq13b) {β : Type} (k1 : zq13e β) (k2 : zq13f β) : zq13g β := fun year t5 t6 =>
 cond t6
 (k1 (31 : Int))
 (let t : Bool := (decide (t5 = (4 : Int)));
 cond t
 (p1 (fun (t4 : Int) =>
 k1 t4) (fun (_ : Unit) =>
 k2 ()) year t5 t)
 (let t2 : Bool := (decide (t5 = (6 : Int)));
 cond t2
 (p1 (fun (t4 : Int) =>
 k1 t4) (fun (_ : Unit) =>
 k2 ()) year t5 t2)
 (let t3 : Bool := (decide (t5 = (9 : Int)));
 cond t3
 (p1 (fun (t4 : Int) =>
 k1 t4) (fun (_ : Unit) =>
 k2 ()) year t5 t3)
 (let t4 : Bool := (decide (t5 = (11 : Int)));
 p1 (fun (t42 : Int) =>
 k1 t42) (fun (_ : Unit) =>
 k2 ()) year t5 t4))))
def zq13p (p1 : zq13b) {β : Type} (k1 : zq13e β) (k2 : zq13f β) : zq13g β := zq13o p1 k1 k2
theorem zq13q (hΓ : GO (zq13k zq1oi)) (p1 : zq13b) (hp1 : OK zq13c (zq13d p1)) : OK zq13i (zq13j (zq13p p1)) :=
 pcE mixed (zq13k zq1oi) tab_ok hΓ 53 (pick1 [(215, zq13c.cut (zq13d p1))]) (by kernel_rfl) (CutsOk_cons (by kernel_rfl) rfl hp1 CutsOk_nil) (fun _ _ => by kernel_rfl)
def zq13r (p2 : zq13h) : zq136 := fun year month k =>
 let t : Bool := (decide (month = (1 : Int)));
 cond t
 (p2 (fun (t4 : Int) =>
 k t4) (fun (_ : Unit) =>
 k (0 : Int)) year month t)
 (let t2 : Bool := (decide (month = (3 : Int)));
 cond t2
 (p2 (fun (t4 : Int) =>
 k t4) (fun (_ : Unit) =>
 k (0 : Int)) year month t2)
 (let t3 : Bool := (decide (month = (5 : Int)));
 cond t3
 (p2 (fun (t4 : Int) =>
 k t4) (fun (_ : Unit) =>
 k (0 : Int)) year month t3)
 (let t4 : Bool := (decide (month = (7 : Int)));
 cond t4
 (p2 (fun (t42 : Int) =>
 k t42) (fun (_ : Unit) =>
 k (0 : Int)) year month t4)
 (let t5 : Bool := (decide (month = (8 : Int)));
 cond t5
 (p2 (fun (t42 : Int) =>
 k t42) (fun (_ : Unit) =>
 k (0 : Int)) year month t5)
 (let t6 : Bool := (decide (month = (10 : Int)));
 cond t6
 (p2 (fun (t42 : Int) =>
 k t42) (fun (_ : Unit) =>
 k (0 : Int)) year month t6)
 (let t7 : Bool := (decide (month = (12 : Int)));
 p2 (fun (t42 : Int) =>
 k t42) (fun (_ : Unit) =>
 k (0 : Int)) year month t7))))))
theorem zq13s (hΓ : GO (zq13k zq1oi)) (p2 : zq13h) (hp2 : OK zq13i (zq13j p2)) : SpecOk Tryz.prog 152 (zq137 (zq13r p2)) :=
 pcS mixed (zq13k zq1oi) tab_ok hΓ (pick1 [(53, zq13i.cut (zq13j p2))]) [.tmp 4] Tryz.func152 (by kernel_rfl) (by kernel_rfl) (by kernel_rfl) (by kernel_rfl) (CutsOk_cons (by kernel_rfl) rfl hp2 CutsOk_nil) (fun _ _ => by kernel_rfl)
end
theorem zq13tΓ : GO (zq13k zqq7) := (ΓOk_cons zqq8 ΓOk_nil)
def zq13u : zq13b := zq13m zqq7
theorem zq13v : OK zq13c (zq13d zq13u) := zq13n zqq7 zq13tΓ
def zq13w : zq13h := zq13p zq13u
theorem zq13x : OK zq13i (zq13j zq13w) := zq13q zqq7 zq13tΓ zq13u zq13v
def zq13y : zq136 := zq13r zq13w
theorem zq13z : SpecOk Tryz.prog 152 (zq137 zq13y) := zq13s zqq7 zq13tΓ zq13w zq13x
abbrev zq140 := {β : Type} → t7y → (Bool → Option β) → Option β
def zq141 (c : zq140) : Spec :=
 ⟨[b62y], [], [b25y], [], fun x k => c x.1.1.1 (fun r0 => k (((r0, ()), ()), ()))⟩
section
variable (zq1oj : zq136)
@[reducible] def zq142 : Ctx := cx [(152, .spec (zq137 zq1oj))]
def zq143 : zq140 := fun d k =>
 cond (decide ((1970 : Int) ≤ d.1))
 (cond (decide (d.1 ≤ (2240 : Int)))
 (cond (decide ((1 : Int) ≤ d.2.1))
 (cond (decide (d.2.1 ≤ (12 : Int)))
 (cond (decide ((1 : Int) ≤ d.2.2))
 (zq1oj d.1 d.2.1 (fun (rDays : Int) =>
 k (decide (d.2.2 ≤ rDays))))
 (k false))
 (k false))
 (k false))
 (k false))
 (k false)
theorem zq144 (hΓ : GO (zq142 zq1oj)) : SpecOk Tryz.prog 155 (zq141 (zq143 zq1oj)) :=
 pcS mixed (zq142 zq1oj) tab_ok hΓ (pick1 []) [.tmp 2] Tryz.func155 (by kernel_rfl) (by kernel_rfl) (by kernel_rfl) (by kernel_rfl) CutsOk_nil (fun _ _ => by kernel_rfl)
end
theorem zq145Γ : GO (zq142 zq13y) := (ΓOk_cons zq13z ΓOk_nil)
def zq146 : zq140 := zq143 zq13y
theorem zq147 : SpecOk Tryz.prog 155 (zq141 zq146) := zq144 zq13y zq145Γ
abbrev zq148 := {β : Type} → zqq → Int → Int → (zqq → Int → Option β) → Option β
def zq149 (c : zq148) : Spec :=
 ⟨[b33y, b21y, b21y], [], [b33y, b21y], [], fun x k => c x.1.1.1 x.1.2.1.1 x.1.2.2.1.1 (fun r0 r1 => k (((r0, ()), (r1, ()), ()), ()))⟩
section
variable (zqxt : zq44) (zqxy : zq81) (zqxw : zq55) (zq1ok : zqvx)
@[reducible] def zq14a : Ctx := cx [(37, .spec (zq45 zqxt)), (49, .spec (zq82 zqxy)), (40, .spec (zq56 zqxw)), (48, .spec (zqvy zq1ok))]
def zq14b : zq148 := fun x role who k =>
 zq1ok x (fun (rready : Int) =>
 cond (!decide (rready = (0 : Int)))
 (k zq18 rready)
 (zqxt role (0 : Int) (2 : Int) (fun (rIn : Bool) =>
 cond (!rIn)
 (k zq18 (1 : Int))
 (zqxw who true (fun (rperson : Bool) =>
 cond (!rperson)
 (k zq18 (1 : Int))
 (zqxy x (fun (rCopy : Int) (rCopy2 : Int) (rCopy3 : Int) (rCopy4 : Int) (rCopy5 : List UInt8) (rCopy6 : Int) (rCopy7 : Int) (rCopy8 : Int) (rCopy9 : Int) (lrCopy : List Int) (lrCopy2 : List zqk) (lrCopy3 : List zqm) (lrCopy4 : List Int) (lrCopy5 : List t7y) =>
 cond (decide (role = (0 : Int)))
 (k (rCopy, (rCopy2, (rCopy3, (rCopy4, (rCopy5, ((who, (rCopy7, rCopy8)), (lrCopy, (lrCopy2, (lrCopy3, (lrCopy4, (lrCopy5, rCopy9))))))))))) (0 : Int))
 (cond (decide (role = (1 : Int)))
 (k (rCopy, (rCopy2, (rCopy3, (rCopy4, (rCopy5, ((rCopy6, (who, rCopy8)), (lrCopy, (lrCopy2, (lrCopy3, (lrCopy4, (lrCopy5, rCopy9))))))))))) (0 : Int))
 (cond (decide (role = (2 : Int)))
 (k (rCopy, (rCopy2, (rCopy3, (rCopy4, (rCopy5, ((rCopy6, (rCopy7, who)), (lrCopy, (lrCopy2, (lrCopy3, (lrCopy4, (lrCopy5, rCopy9))))))))))) (0 : Int))
 (none))))))))))
theorem zq14c (hΓ : GO (zq14a zqxt zqxy zqxw zq1ok)) : SpecOk Tryz.prog 20 (zq149 (zq14b zqxt zqxy zqxw zq1ok)) :=
 pcS mixed (zq14a zqxt zqxy zqxw zq1ok) tab_ok hΓ (pick1 []) [.cell 6 32, .tmp 7] Tryz.func20 (by kernel_rfl) (by kernel_rfl) (by kernel_rfl) (by kernel_rfl) CutsOk_nil (fun _ _ => by kernel_rfl)
end
theorem zq14dΓ : GO (zq14a zq4a zq8j zq5b zqw3) := (ΓOk_cons zq4b (ΓOk_cons zq8k (ΓOk_cons zq5c (ΓOk_cons zqw4 ΓOk_nil))))
def zq14e : zq148 := zq14b zq4a zq8j zq5b zqw3
theorem zq14f : SpecOk Tryz.prog 20 (zq149 zq14e) := zq14c zq4a zq8j zq5b zqw3 zq14dΓ
abbrev zq14g := {β : Type} → zqq → Int → Int → Int → (zqq → Int → Option β) → Option β
def zq14h (c : zq14g) : Spec :=
 ⟨[b33y, b21y, b21y, b21y], [], [b33y, b21y], [], fun x k => c x.1.1.1 x.1.2.1.1 x.1.2.2.1.1 x.1.2.2.2.1.1 (fun r0 r1 => k (((r0, ()), (r1, ()), ()), ()))⟩
abbrev zq14i (β : Type) := Int → zqq → Option β
abbrev zq14j (β : Type) := Int → Int → Int → zqq → zqq → Option β
abbrev zq14k (β : Type) := Int → Int → Int → Bool → zqq → zqq → Option β
abbrev zq14l := {β : Type} → zq14i β → zq14j β → zq14k β
noncomputable def zq14m : Pc := ⟨51, 0, codeAt 231 (bodyOf Tryz.f21), ⟨0, [1, 2, 3, 4, 8, 29], [b21y, b21y, b21y, b23y, b27y, b25y], [b24y, b24y]⟩, [(.ret, ⟨0, [8, 9], [b23y, b21y], [b24y]⟩), (.normal, ⟨0, [1, 2, 3, 4, 8], [b21y, b21y, b21y, b23y, b27y], [b24y, b24y]⟩)]⟩
@[reducible] def zq14n (p : zq14l) : zq14m.G := fun d ks => p (fun a0 a1 => ks.1 (((), (a0, ()), ()), ((a1, ()), ()))) (fun a0 a1 a2 a3 a4 => ks.2.1 (((a0, ()), (a1, ()), (a2, ()), (), (), ()), ((a3, ()), (a4, ()), ()))) d.1.1.1 d.1.2.1.1 d.1.2.2.1.1 d.1.2.2.2.2.2.1.1 d.2.1.1 d.2.2.1.1
abbrev zq14o (β : Type) := Int → zqq → Option β
abbrev zq14p (β : Type) := Int → Int → Int → zqq → zqq → Option β
abbrev zq14q (β : Type) := Int → Int → Int → Bool → zqq → zqq → Option β
abbrev zq14r := {β : Type} → zq14o β → zq14p β → zq14q β
noncomputable def zq14s : Pc := ⟨51, 0, codeAt 57 (bodyOf Tryz.f21), ⟨0, [1, 2, 3, 4, 8, 17], [b21y, b21y, b21y, b23y, b27y, b25y], [b24y, b24y]⟩, [(.ret, ⟨0, [8, 9], [b23y, b21y], [b24y]⟩), (.normal, ⟨0, [1, 2, 3, 4, 8], [b21y, b21y, b21y, b23y, b27y], [b24y, b24y]⟩)]⟩
@[reducible] def zq14t (p : zq14r) : zq14s.G := fun d ks => p (fun a0 a1 => ks.1 (((), (a0, ()), ()), ((a1, ()), ()))) (fun a0 a1 a2 a3 a4 => ks.2.1 (((a0, ()), (a1, ()), (a2, ()), (), (), ()), ((a3, ()), (a4, ()), ()))) d.1.1.1 d.1.2.1.1 d.1.2.2.1.1 d.1.2.2.2.2.2.1.1 d.2.1.1 d.2.2.1.1
section
variable (zqxt : zq44) (zq1ol : zq93) (zq1om : zq8l) (zq1on : zq9b) (zqxw : zq55) (zq1ok : zqvx)
@[reducible] def zq14u : Ctx := cx [(37, .spec (zq45 zqxt)), (51, .spec (zq94 zq1ol)), (50, .spec (zq8m zq1om)), (52, .spec (zq9c zq1on)), (40, .spec (zq56 zqxw)), (48, .spec (zqvy zq1ok))]
def zq14v {β : Type} (k1 : zq14i β) (k2 : zq14j β) : zq14k β := fun at_ to_ who t29 x t8 =>
 cond t29
 (k1 (9 : Int) zq18)
 (let t : Bool := (decide ((32 : Int) ≤ (List.length x.2.2.2.2.2.2.2.2.2.2.1 : Int)));
 cond t
 (k1 (5 : Int) zq18)
 (k2 at_ to_ who x t8))
def zq14w {β : Type} (k1 : zq14i β) (k2 : zq14j β) : zq14k β := zq14v k1 k2
theorem zq14x (hΓ : GO (zq14u zqxt zq1ol zq1om zq1on zqxw zq1ok)) : OK zq14m (zq14n (zq14w)) :=
 pcE mixed (zq14u zqxt zq1ol zq1om zq1on zqxw zq1ok) tab_ok hΓ 231 (pick1 []) (by kernel_rfl) CutsOk_nil (fun _ _ => by kernel_rfl)
def zq14y (p1 : zq14l) {β : Type} (k1 : zq14o β) (k2 : zq14p β) : zq14q β := fun at_ to_ who t17 x t8 =>
 cond t17
 (k1 (1 : Int) zq18)
 (cond (decide (to_ = (4 : Int)))
 (p1 (fun (t9 : Int) (t82 : zqq) =>
 k1 t9 t82) (fun (at_2 : Int) (to_2 : Int) (who2 : Int) (x2 : zqq) (t82 : zqq) =>
 k2 at_2 to_2 who2 x2 t82) at_ to_ who true x t8)
 (zq1ol x.2.1 to_ (fun (rPossible : Bool) =>
 p1 (fun (t9 : Int) (t82 : zqq) =>
 k1 t9 t82) (fun (at_2 : Int) (to_2 : Int) (who2 : Int) (x2 : zqq) (t82 : zqq) =>
 k2 at_2 to_2 who2 x2 t82) at_ to_ who (!rPossible) x t8)))
def zq14z (p1 : zq14l) {β : Type} (k1 : zq14o β) (k2 : zq14p β) : zq14q β := zq14y zq1ol p1 k1 k2
theorem zq150 (hΓ : GO (zq14u zqxt zq1ol zq1om zq1on zqxw zq1ok)) (p1 : zq14l) (hp1 : OK zq14m (zq14n p1)) : OK zq14s (zq14t (zq14z zq1ol p1)) :=
 pcE mixed (zq14u zqxt zq1ol zq1om zq1on zqxw zq1ok) tab_ok hΓ 57 (pick1 [(231, zq14m.cut (zq14n p1))]) (by kernel_rfl) (CutsOk_cons (by kernel_rfl) rfl hp1 CutsOk_nil) (fun _ _ => by kernel_rfl)
def zq151 (p2 : zq14r) : zq14g := fun x at_ to_ who k =>
 zq1ok x (fun (rready : Int) =>
 cond (!decide (rready = (0 : Int)))
 (k zq18 rready)
 (zq1om x (fun (rlast : Int) =>
 zqxt at_ rlast (8589934592 : Int) (fun (rIn : Bool) =>
 cond (!rIn)
 (p2 (fun (t9 : Int) (t8 : zqq) =>
 k t8 t9) (fun (at_2 : Int) (to_2 : Int) (who2 : Int) (x2 : zqq) (t8 : zqq) =>
 zq1on x2 at_2 to_2 who2 (fun (rmove : zqq) =>
 k rmove (0 : Int))) at_ to_ who true x zq18)
 (zqxw who true (fun (rperson : Bool) =>
 p2 (fun (t9 : Int) (t8 : zqq) =>
 k t8 t9) (fun (at_2 : Int) (to_2 : Int) (who2 : Int) (x2 : zqq) (t8 : zqq) =>
 zq1on x2 at_2 to_2 who2 (fun (rmove : zqq) =>
 k rmove (0 : Int))) at_ to_ who (!rperson) x zq18))))))
theorem zq152 (hΓ : GO (zq14u zqxt zq1ol zq1om zq1on zqxw zq1ok)) (p2 : zq14r) (hp2 : OK zq14s (zq14t p2)) : SpecOk Tryz.prog 21 (zq14h (zq151 zqxt zq1om zq1on zqxw zq1ok p2)) :=
 pcS mixed (zq14u zqxt zq1ol zq1om zq1on zqxw zq1ok) tab_ok hΓ (pick1 [(57, zq14s.cut (zq14t p2))]) [.cell 8 32, .tmp 9] Tryz.func21 (by kernel_rfl) (by kernel_rfl) (by kernel_rfl) (by kernel_rfl) (CutsOk_cons (by kernel_rfl) rfl hp2 CutsOk_nil) (fun _ _ => by kernel_rfl)
end
theorem zq153Γ : GO (zq14u zq4a zq99 zq91 zq9h zq5b zqw3) := (ΓOk_cons zq4b (ΓOk_cons zq9a (ΓOk_cons zq92 (ΓOk_cons zq9i (ΓOk_cons zq5c (ΓOk_cons zqw4 ΓOk_nil))))))
def zq154 : zq14l := zq14w
theorem zq155 : OK zq14m (zq14n zq154) := zq14x zq4a zq99 zq91 zq9h zq5b zqw3 zq153Γ
def zq156 : zq14r := zq14z zq99 zq154
theorem zq157 : OK zq14s (zq14t zq156) := zq150 zq4a zq99 zq91 zq9h zq5b zqw3 zq153Γ zq154 zq155
def zq158 : zq14g := zq151 zq4a zq91 zq9h zq5b zqw3 zq156
theorem zq159 : SpecOk Tryz.prog 21 (zq14h zq158) := zq152 zq4a zq99 zq91 zq9h zq5b zqw3 zq153Γ zq156 zq157
abbrev zq15a := {β : Type} → zqq → Int → Int → t4y → (zqq → Int → Option β) → Option β
def zq15b (c : zq15a) : Spec :=
 ⟨[b33y, b21y, b21y, b50y], [], [b33y, b21y], [], fun x k => c x.1.1.1 x.1.2.1.1 x.1.2.2.1.1 x.1.2.2.2.1.1 (fun r0 r1 => k (((r0, ()), (r1, ()), ()), ()))⟩
abbrev zq15c (β : Type) := Int → Int → Int → Int → Int → t4y → Int → Int → Int → Int → t6y → t19y → t16y → t6y → t17y → Option β
abbrev zq15d (β : Type) := Int → Int → t4y → zqq → zqq → Option β
abbrev zq15e := {β : Type} → zq15c β → zq15d β
noncomputable def zq15f : Pc := ⟨53, 0, codeAt 15 (bodyOf Tryz.f22), ⟨0, [1, 2, 3, 4, 8], [b21y, b21y, b50y, b23y, b27y], [b24y, b24y]⟩, [(.ret, ⟨0, [8, 9], [b23y, b21y], [.cells 32 [.data (.int .i64), .data (.int .i64), .data (.int .i64), .data (.int .i64), .data .str, .data (.int .i64), .data (.int .i64), .data (.int .i64), .rowh 1, .rowh 2, .rowh 3, .rowh 4, .rowh 5, .data (.int .i64)], .row 3 (.int .i64), .row 145 zql, .row 148 zqn, .row 3 (.int .i64), .row 62 (.prod (.int .i64) (.prod (.int .i64) (.int .i64)))]⟩)]⟩
@[reducible] def zq15g (p : zq15e) : zq15f.G := fun d ks => p (fun a0 a1 a2 a3 a4 a5 a6 a7 a8 a9 a10 a11 a12 a13 a14 => ks.1 (((), (a0, ()), ()), ((a1, a2, a3, a4, a5, a6, a7, a8, a9, ()), a10, a11, a12, a13, a14, ()))) d.1.1.1 d.1.2.1.1 d.1.2.2.1.1 d.2.1.1 d.2.2.1.1
abbrev zq15h (β : Type) := Int → zqq → Option β
abbrev zq15i (β : Type) := Int → Int → t4y → zqq → zqq → Option β
abbrev zq15j (β : Type) := Int → Int → t4y → Bool → zqq → zqq → Option β
abbrev zq15k := {β : Type} → zq15h β → zq15i β → zq15j β
noncomputable def zq15l : Pc := ⟨53, 0, codeAt 57 (bodyOf Tryz.f22), ⟨0, [1, 2, 3, 4, 8, 18], [b21y, b21y, b50y, b23y, b27y, b25y], [b24y, b24y]⟩, [(.ret, ⟨0, [8, 9], [b23y, b21y], [b24y]⟩), (.normal, ⟨0, [1, 2, 3, 4, 8], [b21y, b21y, b50y, b23y, b27y], [b24y, b24y]⟩)]⟩
@[reducible] def zq15m (p : zq15k) : zq15l.G := fun d ks => p (fun a0 a1 => ks.1 (((), (a0, ()), ()), ((a1, ()), ()))) (fun a0 a1 a2 a3 a4 => ks.2.1 (((a0, ()), (a1, ()), (a2, ()), (), (), ()), ((a3, ()), (a4, ()), ()))) d.1.1.1 d.1.2.1.1 d.1.2.2.1.1 d.1.2.2.2.2.2.1.1 d.2.1.1 d.2.2.1.1
section
variable (zqxt : zq44) (zqxy : zq81) (zqxv : zq4k) (zqxw : zq55) (zq1ok : zqvx)
@[reducible] def zq15n : Ctx := cx [(37, .spec (zq45 zqxt)), (49, .spec (zq82 zqxy)), (39, .spec (zq4l zqxv)), (40, .spec (zq56 zqxw)), (48, .spec (zqvy zq1ok))]
def zq15o {β : Type} (k1 : zq15c β) : zq15d β := fun at_ who text x t8 =>
 zqxy x (fun (rCopy : Int) (rCopy2 : Int) (rCopy3 : Int) (rCopy4 : Int) (rCopy5 : List UInt8) (rCopy6 : Int) (rCopy7 : Int) (rCopy8 : Int) (rCopy9 : Int) (lrCopy : List Int) (lrCopy2 : List zqk) (lrCopy3 : List zqm) (lrCopy4 : List Int) (lrCopy5 : List t7y) =>
 let l : List zqk := ([(text, (who, (at_, (-1 : Int))))] : List zqk);
 cond (decide ((List.length lrCopy2 + List.length l) * 40 ≤ roomMax))
 (let l2 : List zqk := (lrCopy2 ++ l);
 k1 (0 : Int) rCopy rCopy2 rCopy3 rCopy4 rCopy5 rCopy6 rCopy7 rCopy8 rCopy9 lrCopy l2 lrCopy3 lrCopy4 lrCopy5)
 none)
def zq15p {β : Type} (k1 : zq15c β) : zq15d β := zq15o zqxy k1
theorem zq15q (hΓ : GO (zq15n zqxt zqxy zqxv zqxw zq1ok)) : OK zq15f (zq15g (zq15p zqxy)) :=
 pcE mixed (zq15n zqxt zqxy zqxv zqxw zq1ok) tab_ok hΓ 15 (pick1 []) (by kernel_rfl) CutsOk_nil (fun _ _ => by kernel_rfl)
def zq15r {β : Type} (k1 : zq15h β) (k2 : zq15i β) : zq15j β := fun at_ who text t18 x t8 =>
 cond t18
 (k1 (1 : Int) zq18)
 (zqxv text (fun (rText : Bool) =>
 cond (!rText)
 (k1 (2 : Int) zq18)
 (let t : Bool := (decide ((16 : Int) ≤ (List.length x.2.2.2.2.2.2.2.1 : Int)));
 cond t
 (k1 (5 : Int) zq18)
 (k2 at_ who text x t8))))
def zq15s {β : Type} (k1 : zq15h β) (k2 : zq15i β) : zq15j β := zq15r zqxv k1 k2
theorem zq15t (hΓ : GO (zq15n zqxt zqxy zqxv zqxw zq1ok)) : OK zq15l (zq15m (zq15s zqxv)) :=
 pcE mixed (zq15n zqxt zqxy zqxv zqxw zq1ok) tab_ok hΓ 57 (pick1 []) (by kernel_rfl) CutsOk_nil (fun _ _ => by kernel_rfl)
def zq15u (p1 : zq15e) (p2 : zq15k) : zq15a := fun x at_ who text k =>
 zq1ok x (fun (rready : Int) =>
 cond (!decide (rready = (0 : Int)))
 (k zq18 rready)
 (zqxt at_ x.2.2.2.1 (8589934592 : Int) (fun (rIn : Bool) =>
 cond (!rIn)
 (p2 (fun (t9 : Int) (t8 : zqq) =>
 k t8 t9) (fun (at_2 : Int) (who2 : Int) (text2 : List UInt8) (x2 : zqq) (t8 : zqq) =>
 p1 (fun (t9 : Int) (t82 : Int) (t83 : Int) (t84 : Int) (t85 : Int) (t86 : List UInt8) (t87 : Int) (t88 : Int) (t89 : Int) (t810 : Int) (b1_ : List Int) (b2_ : List zqk) (b3_ : List zqm) (b4_ : List Int) (b5_ : List t7y) =>
 k (t82, (t83, (t84, (t85, (t86, ((t87, (t88, t89)), (b1_, (b2_, (b3_, (b4_, (b5_, t810))))))))))) t9) at_2 who2 text2 x2 t8) at_ who text true x zq18)
 (zqxw who true (fun (rperson : Bool) =>
 p2 (fun (t9 : Int) (t8 : zqq) =>
 k t8 t9) (fun (at_2 : Int) (who2 : Int) (text2 : List UInt8) (x2 : zqq) (t8 : zqq) =>
 p1 (fun (t9 : Int) (t82 : Int) (t83 : Int) (t84 : Int) (t85 : Int) (t86 : List UInt8) (t87 : Int) (t88 : Int) (t89 : Int) (t810 : Int) (b1_ : List Int) (b2_ : List zqk) (b3_ : List zqm) (b4_ : List Int) (b5_ : List t7y) =>
 k (t82, (t83, (t84, (t85, (t86, ((t87, (t88, t89)), (b1_, (b2_, (b3_, (b4_, (b5_, t810))))))))))) t9) at_2 who2 text2 x2 t8) at_ who text (!rperson) x zq18)))))
theorem zq15v (hΓ : GO (zq15n zqxt zqxy zqxv zqxw zq1ok)) (p1 : zq15e) (p2 : zq15k) (hp1 : OK zq15f (zq15g p1)) (hp2 : OK zq15l (zq15m p2)) : SpecOk Tryz.prog 22 (zq15b (zq15u zqxt zqxw zq1ok p1 p2)) :=
 pcS mixed (zq15n zqxt zqxy zqxv zqxw zq1ok) tab_ok hΓ (pick1 [(15, zq15f.cut (zq15g p1)), (57, zq15l.cut (zq15m p2))]) [.cell 8 32, .tmp 9] Tryz.func22 (by kernel_rfl) (by kernel_rfl) (by kernel_rfl) (by kernel_rfl) (CutsOk_cons (by kernel_rfl) rfl hp1 (CutsOk_cons (by kernel_rfl) rfl hp2 CutsOk_nil)) (fun _ _ => by kernel_rfl)
end
theorem zq15wΓ : GO (zq15n zq4a zq8j zq53 zq5b zqw3) := (ΓOk_cons zq4b (ΓOk_cons zq8k (ΓOk_cons zq54 (ΓOk_cons zq5c (ΓOk_cons zqw4 ΓOk_nil)))))
def zq15x : zq15e := zq15p zq8j
theorem zq15y : OK zq15f (zq15g zq15x) := zq15q zq4a zq8j zq53 zq5b zqw3 zq15wΓ
def zq15z : zq15k := zq15s zq53
theorem zq160 : OK zq15l (zq15m zq15z) := zq15t zq4a zq8j zq53 zq5b zqw3 zq15wΓ
def zq161 : zq15a := zq15u zq4a zq5b zqw3 zq15x zq15z
theorem zq162 : SpecOk Tryz.prog 22 (zq15b zq161) := zq15v zq4a zq8j zq53 zq5b zqw3 zq15wΓ zq15x zq15z zq15y zq160
abbrev zq163 := {β : Type} → zqq → Int → Int → (zqq → Int → Option β) → Option β
def zq164 (c : zq163) : Spec :=
 ⟨[b33y, b21y, b21y], [], [b33y, b21y], [], fun x k => c x.1.1.1 x.1.2.1.1 x.1.2.2.1.1 (fun r0 r1 => k (((r0, ()), (r1, ()), ()), ()))⟩
section
variable (zqxt : zq44) (zqxy : zq81) (zq1ok : zqvx)
@[reducible] def zq165 : Ctx := cx [(37, .spec (zq45 zqxt)), (49, .spec (zq82 zqxy)), (48, .spec (zqvy zq1ok))]
def zq166 : zq163 := fun x task at_ k =>
 zq1ok x (fun (rready : Int) =>
 cond (!decide (rready = (0 : Int)))
 (k zq18 rready)
 (zqxt at_ x.2.2.2.1 (8589934592 : Int) (fun (rIn : Bool) =>
 cond (!rIn)
 (k zq18 (1 : Int))
 (zqxt task (0 : Int) (IntKind.i64.wrap ((List.length x.2.2.2.2.2.2.2.1 : Int) - (1 : Int))) (fun (rIn2 : Bool) =>
 cond (!rIn2)
 (k zq18 (3 : Int))
 (cond (decide (0 ≤ task) && decide (task < (List.length x.2.2.2.2.2.2.2.1 : Int)))
 (let e : zqk := List.getD x.2.2.2.2.2.2.2.1 (Int.toNat task) (([] : List UInt8), ((0 : Int), ((0 : Int), (0 : Int))));
 let t : Bool := (!decide (e.2.2.2 = (-1 : Int)));
 cond t
 (k zq18 (9 : Int))
 (cond (decide (0 ≤ task) && decide (task < (List.length x.2.2.2.2.2.2.2.1 : Int)))
 (let e2 : zqk := List.getD x.2.2.2.2.2.2.2.1 (Int.toNat task) (([] : List UInt8), ((0 : Int), ((0 : Int), (0 : Int))));
 let t2 : Bool := (decide (at_ < e2.2.2.1));
 cond t2
 (k zq18 (1 : Int))
 (zqxy x (fun (rCopy : Int) (rCopy2 : Int) (rCopy3 : Int) (rCopy4 : Int) (rCopy5 : List UInt8) (rCopy6 : Int) (rCopy7 : Int) (rCopy8 : Int) (rCopy9 : Int) (lrCopy : List Int) (lrCopy2 : List zqk) (lrCopy3 : List zqm) (lrCopy4 : List Int) (lrCopy5 : List t7y) =>
 cond (decide (0 ≤ task) && decide (task < (List.length lrCopy2 : Int)))
 (let l : List zqk := (List.set lrCopy2 (Int.toNat task) ((List.getD lrCopy2 (Int.toNat task) (([] : List UInt8), ((0 : Int), ((0 : Int), (0 : Int))))).1, (((List.getD lrCopy2 (Int.toNat task) (([] : List UInt8), ((0 : Int), ((0 : Int), (0 : Int))))).2).1, ((((List.getD lrCopy2 (Int.toNat task) (([] : List UInt8), ((0 : Int), ((0 : Int), (0 : Int))))).2).2).1, at_))));
 k (rCopy, (rCopy2, (rCopy3, (rCopy4, (rCopy5, ((rCopy6, (rCopy7, rCopy8)), (lrCopy, (l, (lrCopy3, (lrCopy4, (lrCopy5, rCopy9))))))))))) (0 : Int))
 none)))
 none))
 none))))))
theorem zq167 (hΓ : GO (zq165 zqxt zqxy zq1ok)) : SpecOk Tryz.prog 23 (zq164 (zq166 zqxt zqxy zq1ok)) :=
 pcS mixed (zq165 zqxt zqxy zq1ok) tab_ok hΓ (pick1 []) [.cell 6 32, .tmp 7] Tryz.func23 (by kernel_rfl) (by kernel_rfl) (by kernel_rfl) (by kernel_rfl) CutsOk_nil (fun _ _ => by kernel_rfl)
end
theorem zq168Γ : GO (zq165 zq4a zq8j zqw3) := (ΓOk_cons zq4b (ΓOk_cons zq8k (ΓOk_cons zqw4 ΓOk_nil)))
def zq169 : zq163 := zq166 zq4a zq8j zqw3
theorem zq16a : SpecOk Tryz.prog 23 (zq164 zq169) := zq167 zq4a zq8j zqw3 zq168Γ
abbrev zq16b := {β : Type} → zqq → Int → (zqq → Int → Option β) → Option β
def zq16c (c : zq16b) : Spec :=
 ⟨[b33y, b21y], [], [b33y, b21y], [], fun x k => c x.1.1.1 x.1.2.1.1 (fun r0 r1 => k (((r0, ()), (r1, ()), ()), ()))⟩
section
variable (zqyh : zq1x) (zq1oo : zq9j) (zqxy : zq81) (zqxw : zq55) (zq1ok : zqvx)
@[reducible] def zq16d : Ctx := cx [(14, .spec (zq1y zqyh)), (53, .spec (zq9k zq1oo)), (49, .spec (zq82 zqxy)), (40, .spec (zq56 zqxw)), (48, .spec (zqvy zq1ok))]
def zq16e : zq16b := fun x who k =>
 zq1ok x (fun (rready : Int) =>
 cond (!decide (rready = (0 : Int)))
 (k zq18 rready)
 (zqxw who false (fun (rperson : Bool) =>
 cond (!rperson)
 (k zq18 (1 : Int))
 (zqyh x.2.2.2.2.2.2.2.2.2.1 who (fun (rHas : Bool) =>
 cond rHas
 (k zq18 (4 : Int))
 (zqxy x (fun (rCopy : Int) (rCopy2 : Int) (rCopy3 : Int) (rCopy4 : Int) (rCopy5 : List UInt8) (rCopy6 : Int) (rCopy7 : Int) (rCopy8 : Int) (rCopy9 : Int) (lrCopy : List Int) (lrCopy2 : List zqk) (lrCopy3 : List zqm) (lrCopy4 : List Int) (lrCopy5 : List t7y) =>
 zq1oo lrCopy4 who (fun (lrWith : List Int) =>
 k (rCopy, (rCopy2, (rCopy3, (rCopy4, (rCopy5, ((rCopy6, (rCopy7, rCopy8)), (lrCopy, (lrCopy2, (lrCopy3, (lrWith, (lrCopy5, rCopy9))))))))))) (0 : Int)))))))))
theorem zq16f (hΓ : GO (zq16d zqyh zq1oo zqxy zqxw zq1ok)) : SpecOk Tryz.prog 24 (zq16c (zq16e zqyh zq1oo zqxy zqxw zq1ok)) :=
 pcS mixed (zq16d zqyh zq1oo zqxy zqxw zq1ok) tab_ok hΓ (pick1 []) [.cell 4 32, .tmp 5] Tryz.func24 (by kernel_rfl) (by kernel_rfl) (by kernel_rfl) (by kernel_rfl) CutsOk_nil (fun _ _ => by kernel_rfl)
end
theorem zq16gΓ : GO (zq16d zq2g zqab zq8j zq5b zqw3) := (ΓOk_cons zq2h (ΓOk_cons zqac (ΓOk_cons zq8k (ΓOk_cons zq5c (ΓOk_cons zqw4 ΓOk_nil)))))
def zq16h : zq16b := zq16e zq2g zqab zq8j zq5b zqw3
theorem zq16i : SpecOk Tryz.prog 24 (zq16c zq16h) := zq16f zq2g zqab zq8j zq5b zqw3 zq16gΓ
abbrev zq16j := {β : Type} → zqq → Int → t4y → (zqq → Int → t6y → Option β) → Option β
def zq16k (c : zq16j) : Spec :=
 ⟨[b33y, b21y, b50y], [], [b33y, b46y, b21y], [.row 3 (.int .i64)], fun x k => c x.1.1.1 x.1.2.1.1 x.1.2.2.1.1 (fun r0 r1 r2 => k (((r0, ()), (), (r1, ()), ()), (r2, ())))⟩
abbrev zq16l (β : Type) := Int → t4y → zqq → zqq → Int → Int → Int → Int → t4y → Int → Int → Int → Int → t6y → t6y → t19y → t16y → t6y → t17y → Option β
abbrev zq16m (β : Type) := Int → t4y → Int → zqq → zqq → Int → Int → Int → Int → t4y → Int → Int → Int → Int → t6y → t6y → t19y → t16y → t6y → t17y → Option β
abbrev zq16n := {β : Type} → zq16l β → zq16m β
noncomputable def zq16o : Pc := ⟨71, 0, codeAt 506 (bodyOf Tryz.f25), ⟨0, [1, 2, 3, 6, 10, 11, 12], [b21y, b50y, b23y, b27y, b31y, (false, [.rowh 3]), b21y], [b24y, b24y, b54y, .row 3 (.int .i64), .row 3 (.int .i64), .row 145 zql, .row 148 zqn, .row 3 (.int .i64), .row 62 (.prod (.int .i64) (.prod (.int .i64) (.int .i64)))]⟩, [(.exit 1, ⟨0, [1, 2, 3, 6, 10, 11], [b21y, b50y, b23y, b27y, b31y, (false, [.rowh 3])], [b24y, b24y, b54y, .row 3 (.int .i64), .row 3 (.int .i64), .row 145 zql, .row 148 zqn, .row 3 (.int .i64), .row 62 (.prod (.int .i64) (.prod (.int .i64) (.int .i64)))]⟩)]⟩
@[reducible] def zq16p (p : zq16n) : zq16o.G := fun d ks => p (fun a0 a1 a2 a3 a4 a5 a6 a7 a8 a9 a10 a11 a12 a13 a14 a15 a16 a17 a18 => ks.1 (((a0, ()), (a1, ()), (), (), (), (), ()), ((a2, ()), (a3, ()), (a4, a5, a6, a7, a8, a9, a10, a11, a12, ()), a13, a14, a15, a16, a17, a18, ()))) d.1.1.1 d.1.2.1.1 d.1.2.2.2.2.2.2.1.1 d.2.1.1 d.2.2.1.1 d.2.2.2.1.1 d.2.2.2.1.2.1 d.2.2.2.1.2.2.1 d.2.2.2.1.2.2.2.1 d.2.2.2.1.2.2.2.2.1 d.2.2.2.1.2.2.2.2.2.1 d.2.2.2.1.2.2.2.2.2.2.1 d.2.2.2.1.2.2.2.2.2.2.2.1 d.2.2.2.1.2.2.2.2.2.2.2.2.1 d.2.2.2.2.1 d.2.2.2.2.2.1 d.2.2.2.2.2.2.1 d.2.2.2.2.2.2.2.1 d.2.2.2.2.2.2.2.2.1 d.2.2.2.2.2.2.2.2.2.1
section
variable (zqxt : zq44) (zq1oo : zq9j) (zqxy : zq81) (zqxv : zq4k) (zq1om : zq8l) (zq1ok : zqvx)
@[reducible] def zq16q : Ctx := cx [(37, .spec (zq45 zqxt)), (53, .spec (zq9k zq1oo)), (49, .spec (zq82 zqxy)), (39, .spec (zq4l zqxv)), (50, .spec (zq8m zq1om)), (48, .spec (zqvy zq1ok))]
def zq16r {β : Type} (rec : zq16m β) (k1 : zq16l β) : zq16m β := fun at_ text i_ x t6 out out2 out3 out4 out5 out6 out7 out8 out9 told b4_ b5_ b6_ b7_ b8_ =>
 cond (decide (i_ < (3 : Int)))
 (cond (decide (i_ = (0 : Int)))
 (cond (decide ((0 : Int) ≤ x.2.2.2.2.2.1.1))
 (cond (decide (i_ = (0 : Int)))
 (zq1oo told x.2.2.2.2.2.1.1 (fun (lrWith : List Int) =>
 let i_2 : Int := (IntKind.i64.wrap (i_ + (1 : Int)));
 rec at_ text i_2 x t6 out out2 out3 out4 out5 out6 out7 out8 out9 lrWith b4_ b5_ b6_ b7_ b8_))
 (cond (decide (i_ = (1 : Int)))
 (zq1oo told x.2.2.2.2.2.1.2.1 (fun (lrWith : List Int) =>
 let i_2 : Int := (IntKind.i64.wrap (i_ + (1 : Int)));
 rec at_ text i_2 x t6 out out2 out3 out4 out5 out6 out7 out8 out9 lrWith b4_ b5_ b6_ b7_ b8_))
 (cond (decide (i_ = (2 : Int)))
 (zq1oo told x.2.2.2.2.2.1.2.2 (fun (lrWith : List Int) =>
 let i_2 : Int := (IntKind.i64.wrap (i_ + (1 : Int)));
 rec at_ text i_2 x t6 out out2 out3 out4 out5 out6 out7 out8 out9 lrWith b4_ b5_ b6_ b7_ b8_))
 (none))))
 (let i_2 : Int := (IntKind.i64.wrap (i_ + (1 : Int)));
 rec at_ text i_2 x t6 out out2 out3 out4 out5 out6 out7 out8 out9 told b4_ b5_ b6_ b7_ b8_))
 (cond (decide (i_ = (1 : Int)))
 (cond (decide ((0 : Int) ≤ x.2.2.2.2.2.1.2.1))
 (cond (decide (i_ = (0 : Int)))
 (zq1oo told x.2.2.2.2.2.1.1 (fun (lrWith : List Int) =>
 let i_2 : Int := (IntKind.i64.wrap (i_ + (1 : Int)));
 rec at_ text i_2 x t6 out out2 out3 out4 out5 out6 out7 out8 out9 lrWith b4_ b5_ b6_ b7_ b8_))
 (cond (decide (i_ = (1 : Int)))
 (zq1oo told x.2.2.2.2.2.1.2.1 (fun (lrWith : List Int) =>
 let i_2 : Int := (IntKind.i64.wrap (i_ + (1 : Int)));
 rec at_ text i_2 x t6 out out2 out3 out4 out5 out6 out7 out8 out9 lrWith b4_ b5_ b6_ b7_ b8_))
 (cond (decide (i_ = (2 : Int)))
 (zq1oo told x.2.2.2.2.2.1.2.2 (fun (lrWith : List Int) =>
 let i_2 : Int := (IntKind.i64.wrap (i_ + (1 : Int)));
 rec at_ text i_2 x t6 out out2 out3 out4 out5 out6 out7 out8 out9 lrWith b4_ b5_ b6_ b7_ b8_))
 (none))))
 (let i_2 : Int := (IntKind.i64.wrap (i_ + (1 : Int)));
 rec at_ text i_2 x t6 out out2 out3 out4 out5 out6 out7 out8 out9 told b4_ b5_ b6_ b7_ b8_))
 (cond (decide (i_ = (2 : Int)))
 (cond (decide ((0 : Int) ≤ x.2.2.2.2.2.1.2.2))
 (cond (decide (i_ = (0 : Int)))
 (zq1oo told x.2.2.2.2.2.1.1 (fun (lrWith : List Int) =>
 let i_2 : Int := (IntKind.i64.wrap (i_ + (1 : Int)));
 rec at_ text i_2 x t6 out out2 out3 out4 out5 out6 out7 out8 out9 lrWith b4_ b5_ b6_ b7_ b8_))
 (cond (decide (i_ = (1 : Int)))
 (zq1oo told x.2.2.2.2.2.1.2.1 (fun (lrWith : List Int) =>
 let i_2 : Int := (IntKind.i64.wrap (i_ + (1 : Int)));
 rec at_ text i_2 x t6 out out2 out3 out4 out5 out6 out7 out8 out9 lrWith b4_ b5_ b6_ b7_ b8_))
 (cond (decide (i_ = (2 : Int)))
 (zq1oo told x.2.2.2.2.2.1.2.2 (fun (lrWith : List Int) =>
 let i_2 : Int := (IntKind.i64.wrap (i_ + (1 : Int)));
 rec at_ text i_2 x t6 out out2 out3 out4 out5 out6 out7 out8 out9 lrWith b4_ b5_ b6_ b7_ b8_))
 (none))))
 (let i_2 : Int := (IntKind.i64.wrap (i_ + (1 : Int)));
 rec at_ text i_2 x t6 out out2 out3 out4 out5 out6 out7 out8 out9 told b4_ b5_ b6_ b7_ b8_))
 (none))))
 (k1 at_ text x t6 out out2 out3 out4 out5 out6 out7 out8 out9 told b4_ b5_ b6_ b7_ b8_)
def zq16s {β : Type} (i : Nat) (k1 : zq16l β) := lp20 (fun r => zq16r zq1oo r k1) none i
theorem zq16t (hΓ : GO (zq16q zqxt zq1oo zqxy zqxv zq1om zq1ok)) (i : Nat) : OK zq16o (zq16p (zq16s zq1oo i)) :=
 pcL mixed (zq16q zqxt zq1oo zqxy zqxv zq1om zq1ok) tab_ok hΓ (G := fun i => @fun β d ks => zq16p (zq16s zq1oo i) d ks) (pick1 []) (by kernel_rfl) rfl (by kernel_rfl) CutsOk_nil (fun _ _ => rfl) (fun _ _ _ _ => by kernel_rfl) i
def zq16u (p1 : zq16n) : zq16j := fun x at_ text k =>
 zq1ok x (fun (rready : Int) =>
 cond (!decide (rready = (0 : Int)))
 (k zq18 rready ([] : List Int))
 (zq1om x (fun (rlast : Int) =>
 zqxt at_ rlast (8589934592 : Int) (fun (rIn : Bool) =>
 cond (!rIn)
 (k zq18 (1 : Int) ([] : List Int))
 (zqxv text (fun (rText : Bool) =>
 cond (!rText)
 (k zq18 (2 : Int) ([] : List Int))
 (let t : Bool := (decide ((32 : Int) ≤ (List.length x.2.2.2.2.2.2.2.2.1 : Int)));
 cond t
 (k zq18 (5 : Int) ([] : List Int))
 (zqxy x (fun (rCopy : Int) (rCopy2 : Int) (rCopy3 : Int) (rCopy4 : Int) (rCopy5 : List UInt8) (rCopy6 : Int) (rCopy7 : Int) (rCopy8 : Int) (rCopy9 : Int) (lrCopy : List Int) (lrCopy2 : List zqk) (lrCopy3 : List zqm) (lrCopy4 : List Int) (lrCopy5 : List t7y) =>
 cond (decide (List.length x.2.2.2.2.2.2.2.2.2.1 * 8 ≤ roomMax))
 (p1 (fun (at_2 : Int) (text2 : List UInt8) (x2 : zqq) (t6 : zqq) (out : Int) (out2 : Int) (out3 : Int) (out4 : Int) (out5 : List UInt8) (out6 : Int) (out7 : Int) (out8 : Int) (out9 : Int) (told : List Int) (b4_ : List Int) (b5_ : List zqk) (b6_ : List zqm) (b7_ : List Int) (b8_ : List t7y) =>
 cond (decide (List.length told * 8 ≤ roomMax))
 (let l : List zqm := ([(at_2, (x2.2.1, (text2, told)))] : List zqm);
 cond (decide ((List.length b6_ + List.length l) * 56 ≤ roomMax))
 (let l2 : List zqm := (b6_ ++ l);
 k (out, (out2, (out3, (out4, (out5, ((out6, (out7, out8)), (b4_, (b5_, (l2, (b7_, (b8_, out9))))))))))) (0 : Int) told)
 none)
 none) at_ text (0 : Int) x zq18 rCopy rCopy2 rCopy3 rCopy4 rCopy5 rCopy6 rCopy7 rCopy8 rCopy9 x.2.2.2.2.2.2.2.2.2.1 lrCopy lrCopy2 lrCopy3 lrCopy4 lrCopy5)
 none)))))))))
theorem zq16v (hΓ : GO (zq16q zqxt zq1oo zqxy zqxv zq1om zq1ok)) (p1 : zq16n) (hp1 : OK zq16o (zq16p p1)) : SpecOk Tryz.prog 25 (zq16k (zq16u zqxt zqxy zqxv zq1om zq1ok p1)) :=
 pcS mixed (zq16q zqxt zq1oo zqxy zqxv zq1om zq1ok) tab_ok hΓ (pick1 [(506, zq16o.cut (zq16p p1))]) [.cell 6 32, .tmp 7, .tmp 8] Tryz.func25 (by kernel_rfl) (by kernel_rfl) (by kernel_rfl) (by kernel_rfl) (CutsOk_cons (by kernel_rfl) rfl hp1 CutsOk_nil) (fun _ _ => by kernel_rfl)
end
theorem zq16wΓ : GO (zq16q zq4a zqab zq8j zq53 zq91 zqw3) := (ΓOk_cons zq4b (ΓOk_cons zqac (ΓOk_cons zq8k (ΓOk_cons zq54 (ΓOk_cons zq92 (ΓOk_cons zqw4 ΓOk_nil))))))
def zq16x (m : Nat) : zq16n := zq16s zqab m
theorem zq16y {β : Type} (i : Nat) (k1) : zq16x (β := β) (i + 1) k1 = zq16r zqab (zq16x i k1) k1 := rfl
def zq16z : zq16n := zq16x fuel
theorem zq170 : OK zq16o (zq16p zq16z) := zq16t zq4a zqab zq8j zq53 zq91 zqw3 zq16wΓ fuel
def zq171 : zq16j := zq16u zq4a zq8j zq53 zq91 zqw3 zq16z
theorem zq172 : SpecOk Tryz.prog 25 (zq16k zq171) := zq16v zq4a zqab zq8j zq53 zq91 zqw3 zq16wΓ zq16z zq170
abbrev zq173 := {β : Type} → zqq → Int → (zqq → Int → Option β) → Option β
def zq174 (c : zq173) : Spec :=
 ⟨[b33y, b21y], [], [b33y, b21y], [], fun x k => c x.1.1.1 x.1.2.1.1 (fun r0 r1 => k (((r0, ()), (r1, ()), ()), ()))⟩
section
variable (zqyh : zq1x) (zqxt : zq44) (zq1oo : zq9j) (zqxy : zq81) (zq1ok : zqvx)
@[reducible] def zq175 : Ctx := cx [(14, .spec (zq1y zqyh)), (37, .spec (zq45 zqxt)), (53, .spec (zq9k zq1oo)), (49, .spec (zq82 zqxy)), (48, .spec (zqvy zq1ok))]
def zq176 : zq173 := fun x page k =>
 zq1ok x (fun (rready : Int) =>
 cond (!decide (rready = (0 : Int)))
 (k zq18 rready)
 (zqxt page (1 : Int) (999999 : Int) (fun (rIn : Bool) =>
 cond (!rIn)
 (k zq18 (1 : Int))
 (zqyh x.2.2.2.2.2.2.1 page (fun (rHas : Bool) =>
 cond rHas
 (k zq18 (4 : Int))
 (let t : Bool := (decide ((64 : Int) ≤ (List.length x.2.2.2.2.2.2.1 : Int)));
 cond t
 (k zq18 (5 : Int))
 (zqxy x (fun (rCopy : Int) (rCopy2 : Int) (rCopy3 : Int) (rCopy4 : Int) (rCopy5 : List UInt8) (rCopy6 : Int) (rCopy7 : Int) (rCopy8 : Int) (rCopy9 : Int) (lrCopy : List Int) (lrCopy2 : List zqk) (lrCopy3 : List zqm) (lrCopy4 : List Int) (lrCopy5 : List t7y) =>
 zq1oo lrCopy page (fun (lrWith : List Int) =>
 k (rCopy, (rCopy2, (rCopy3, (rCopy4, (rCopy5, ((rCopy6, (rCopy7, rCopy8)), (lrWith, (lrCopy2, (lrCopy3, (lrCopy4, (lrCopy5, rCopy9))))))))))) (0 : Int))))))))))
theorem zq177 (hΓ : GO (zq175 zqyh zqxt zq1oo zqxy zq1ok)) : SpecOk Tryz.prog 26 (zq174 (zq176 zqyh zqxt zq1oo zqxy zq1ok)) :=
 pcS mixed (zq175 zqyh zqxt zq1oo zqxy zq1ok) tab_ok hΓ (pick1 []) [.cell 4 32, .tmp 5] Tryz.func26 (by kernel_rfl) (by kernel_rfl) (by kernel_rfl) (by kernel_rfl) CutsOk_nil (fun _ _ => by kernel_rfl)
end
theorem zq178Γ : GO (zq175 zq2g zq4a zqab zq8j zqw3) := (ΓOk_cons zq2h (ΓOk_cons zq4b (ΓOk_cons zqac (ΓOk_cons zq8k (ΓOk_cons zqw4 ΓOk_nil)))))
def zq179 : zq173 := zq176 zq2g zq4a zqab zq8j zqw3
theorem zq17a : SpecOk Tryz.prog 26 (zq174 zq179) := zq177 zq2g zq4a zqab zq8j zqw3 zq178Γ
abbrev zq17b := {β : Type} → zqi → zq4 → zqs → t11y → (zqs → Int → Option β) → Option β
def zq17c (c : zq17b) : Spec :=
 ⟨[b36y, b59y, b43y, b63y], [], [b43y, b21y], [], fun x k => c x.1.1.1 x.1.2.1.1 x.1.2.2.1.1 x.1.2.2.2.1.1 (fun r0 r1 => k (((r0, ()), (r1, ()), ()), ()))⟩
abbrev zq17d (β : Type) := Bool → zqs → t11y → zqs → Int → Int → Int → Int → Int → Int → Int → Int → Int → Int → Int → (List t2y) → t6y → t6y → Option β
abbrev zq17e (β : Type) := Bool → Int → zqs → t11y → zqs → Int → Int → Int → Int → Int → Int → Int → Int → Int → Int → Int → t6y → (List t2y) → t6y → t6y → Option β
abbrev zq17f := {β : Type} → zq17d β → zq17e β
noncomputable def zq17g : Pc := ⟨158, 0, codeAt 2091962 (bodyOf Tryz.f31), ⟨0, [6, 7, 8, 10, 12, 13, 14], [b23y, b27y, b31y, b38y, (false, [.rowh 4]), b25y, b21y], [b28y, b40y, b28y, b37y, .row 3 (.int .i64), .row 65 (.prod (.int .i64) (.prod (.int .i64) (.slice (.int .i64)))), .row 3 (.int .i64), .row 3 (.int .i64)]⟩, [(.exit 1, ⟨0, [6, 7, 8, 10, 13], [b23y, b27y, b31y, b38y, b25y], [b28y, b40y, b28y, .cells 50 [.data (.int .i64), .data (.int .i64), .data (.int .i64), .data (.int .i64), .data (.int .i64), .data (.int .i64), .data (.int .i64), .data (.int .i64), .data (.int .i64), .data (.int .i64), .data (.int .i64), .rowh 4, .rowh 5, .rowh 6], .row 65 (.prod (.int .i64) (.prod (.int .i64) (.slice (.int .i64)))), .row 3 (.int .i64), .row 3 (.int .i64)]⟩)]⟩
@[reducible] def zq17h (p : zq17f) : zq17g.G := fun d ks => p (fun a0 a1 a2 a3 a4 a5 a6 a7 a8 a9 a10 a11 a12 a13 a14 a15 a16 a17 => ks.1 (((), (), (), (), (a0, ()), ()), ((a1, ()), (a2, ()), (a3, ()), (a4, a5, a6, a7, a8, a9, a10, a11, a12, a13, a14, ()), a15, a16, a17, ()))) d.1.2.2.2.2.2.1.1 d.1.2.2.2.2.2.2.1.1 d.2.1.1 d.2.2.1.1 d.2.2.2.1.1 d.2.2.2.2.1.1 d.2.2.2.2.1.2.1 d.2.2.2.2.1.2.2.1 d.2.2.2.2.1.2.2.2.1 d.2.2.2.2.1.2.2.2.2.1 d.2.2.2.2.1.2.2.2.2.2.1 d.2.2.2.2.1.2.2.2.2.2.2.1 d.2.2.2.2.1.2.2.2.2.2.2.2.1 d.2.2.2.2.1.2.2.2.2.2.2.2.2.1 d.2.2.2.2.1.2.2.2.2.2.2.2.2.2.1 d.2.2.2.2.1.2.2.2.2.2.2.2.2.2.2.1 d.2.2.2.2.2.1 d.2.2.2.2.2.2.1 d.2.2.2.2.2.2.2.1 d.2.2.2.2.2.2.2.2.1
abbrev zq17i (β : Type) := zqs → Int → Int → Int → Int → Int → Int → Int → Int → Int → Int → Int → (List t2y) → t6y → t6y → Option β
abbrev zq17j (β : Type) := zqs → t11y → zqs → Int → Int → Int → Int → Int → Int → Int → Int → Int → Int → Int → t6y → (List t2y) → t6y → t6y → Option β
abbrev zq17k := {β : Type} → zq17i β → zq17j β
noncomputable def zq17l : Pc := ⟨158, 0, codeAt 130747 (bodyOf Tryz.f31), ⟨0, [6, 7, 8, 10, 12], [b23y, b27y, b31y, b38y, (false, [.rowh 4])], [b28y, b40y, b28y, b37y, .row 3 (.int .i64), .row 65 (.prod (.int .i64) (.prod (.int .i64) (.slice (.int .i64)))), .row 3 (.int .i64), .row 3 (.int .i64)]⟩, [(.normal, ⟨0, [8, 10], [b23y, b27y], [b28y, .cells 50 [.data (.int .i64), .data (.int .i64), .data (.int .i64), .data (.int .i64), .data (.int .i64), .data (.int .i64), .data (.int .i64), .data (.int .i64), .data (.int .i64), .data (.int .i64), .data (.int .i64), .rowh 2, .rowh 3, .rowh 4], .row 65 (.prod (.int .i64) (.prod (.int .i64) (.slice (.int .i64)))), .row 3 (.int .i64), .row 3 (.int .i64)]⟩)]⟩
@[reducible] def zq17m (p : zq17k) : zq17l.G := fun d ks => p (fun a0 a1 a2 a3 a4 a5 a6 a7 a8 a9 a10 a11 a12 a13 a14 => ks.1 (((), (), ()), ((a0, ()), (a1, a2, a3, a4, a5, a6, a7, a8, a9, a10, a11, ()), a12, a13, a14, ()))) d.2.1.1 d.2.2.1.1 d.2.2.2.1.1 d.2.2.2.2.1.1 d.2.2.2.2.1.2.1 d.2.2.2.2.1.2.2.1 d.2.2.2.2.1.2.2.2.1 d.2.2.2.2.1.2.2.2.2.1 d.2.2.2.2.1.2.2.2.2.2.1 d.2.2.2.2.1.2.2.2.2.2.2.1 d.2.2.2.2.1.2.2.2.2.2.2.2.1 d.2.2.2.2.1.2.2.2.2.2.2.2.2.1 d.2.2.2.2.1.2.2.2.2.2.2.2.2.2.1 d.2.2.2.2.1.2.2.2.2.2.2.2.2.2.2.1 d.2.2.2.2.2.1 d.2.2.2.2.2.2.1 d.2.2.2.2.2.2.2.1 d.2.2.2.2.2.2.2.2.1
section
variable (zqyh : zq1x) (zq1oo : zq9j) (zq1op : zqb5) (zq1oq : zqd2) (zq1or : zqw5) (zq1os : zqad) (zq1ot : zqbo)
@[reducible] def zq17n : Ctx := cx [(14, .spec (zq1y zqyh)), (53, .spec (zq9k zq1oo)), (58, .spec (zqb6 zq1op)), (60, .spec (zqd3 zq1oq)), (54, .spec (zqw6 zq1or)), (55, .spec (zqae zq1os)), (59, .spec (zqbp zq1ot))]
def zq17o {β : Type} (rec : zq17e β) (k1 : zq17d β) : zq17e β := fun all i_ p_ a t8 out out2 out3 out4 out5 out6 out7 out8 out9 out10 out11 called b5_ b6_ b7_ =>
 cond (decide (i_ < (List.length called : Int)))
 (cond all
 (cond (decide (0 ≤ i_) && decide (i_ < (List.length called : Int)))
 (zqyh b6_ (List.getD called (Int.toNat i_) (0 : Int)) (fun (rHas : Bool) =>
 let i_2 : Int := (IntKind.i64.wrap (i_ + (1 : Int)));
 rec rHas i_2 p_ a t8 out out2 out3 out4 out5 out6 out7 out8 out9 out10 out11 called b5_ b6_ b7_))
 none)
 (let i_2 : Int := (IntKind.i64.wrap (i_ + (1 : Int)));
 rec false i_2 p_ a t8 out out2 out3 out4 out5 out6 out7 out8 out9 out10 out11 called b5_ b6_ b7_))
 (k1 all p_ a t8 out out2 out3 out4 out5 out6 out7 out8 out9 out10 out11 b5_ b6_ b7_)
def zq17p {β : Type} (i : Nat) (k1 : zq17d β) := lp20 (fun r => zq17o zqyh r k1) none i
theorem zq17q (hΓ : GO (zq17n zqyh zq1oo zq1op zq1oq zq1or zq1os zq1ot)) (i : Nat) : OK zq17g (zq17h (zq17p zqyh i)) :=
 pcL mixed (zq17n zqyh zq1oo zq1op zq1oq zq1or zq1os zq1ot) tab_ok hΓ (G := fun i => @fun β d ks => zq17h (zq17p zqyh i) d ks) (pick1 []) (by kernel_rfl) rfl (by kernel_rfl) CutsOk_nil (fun _ _ => rfl) (fun _ _ _ _ => by kernel_rfl) i
def zq17r (p1 : zq17f) {β : Type} (k1 : zq17i β) : zq17j β := fun p_ a t8 out out2 out3 out4 out5 out6 out7 out8 out9 out10 out11 called b5_ b6_ b7_ =>
 let all : Bool := (decide ((0 : Int) < (List.length called : Int)));
 p1 (fun (all2 : Bool) (p_2 : zqs) (a2 : t11y) (t82 : zqs) (out12 : Int) (out13 : Int) (out14 : Int) (out15 : Int) (out16 : Int) (out17 : Int) (out18 : Int) (out19 : Int) (out20 : Int) (out21 : Int) (out22 : Int) (b4_ : List t2y) (b5_2 : List Int) (b6_2 : List Int) =>
 cond all2
 (cond (decide (p_2.2.2.2.2.2.1 = (0 : Int)))
 (k1 t82 out12 out13 out14 out15 a2.2.2.2.2.2 out17 out18 out19 out20 out21 out22 b4_ b5_2 b6_2)
 (k1 t82 out12 out13 out14 out15 out16 out17 out18 out19 out20 out21 out22 b4_ b5_2 b6_2))
 (k1 t82 out12 out13 out14 out15 out16 out17 out18 out19 out20 out21 out22 b4_ b5_2 b6_2)) all (0 : Int) p_ a t8 out out2 out3 out4 out5 out6 out7 out8 out9 out10 out11 called b5_ b6_ b7_
def zq17s (p1 : zq17f) {β : Type} (k1 : zq17i β) : zq17j β := zq17r p1 k1
theorem zq17t (hΓ : GO (zq17n zqyh zq1oo zq1op zq1oq zq1or zq1os zq1ot)) (p1 : zq17f) (hp1 : OK zq17g (zq17h p1)) : OK zq17l (zq17m (zq17s p1)) :=
 pcE mixed (zq17n zqyh zq1oo zq1op zq1oq zq1or zq1os zq1ot) tab_ok hΓ 130747 (pick1 [(2091962, zq17g.cut (zq17h p1))]) (by kernel_rfl) (CutsOk_cons (by kernel_rfl) rfl hp1 CutsOk_nil) (fun _ _ => by kernel_rfl)
def zq17u (p2 : zq17k) : zq17b := fun c b p_ a k =>
 zq1or b p_ (fun (rCheck : Bool) =>
 cond (!rCheck)
 (k zq17 (8 : Int))
 (zq1op a (fun (rValid : Bool) =>
 cond (!rValid)
 (k zq17 (8 : Int))
 (cond (!decide (a.2.1 = p_.1))
 (k zq17 (3 : Int))
 (zq1os p_ (fun (rCopy : Int) (rCopy2 : Int) (rCopy3 : Int) (rCopy4 : Int) (rCopy5 : Int) (rCopy6 : Int) (rCopy7 : Int) (rCopy8 : Int) (rCopy9 : Int) (rCopy10 : Int) (rCopy11 : Int) (lrCopy : List t2y) (lrCopy2 : List Int) (lrCopy3 : List Int) =>
 zqyh p_.2.2.2.2.2.2.2.2.2.2.2.2.2 a.1 (fun (rHas : Bool) =>
 cond rHas
 (k (rCopy, (rCopy2, (rCopy3, (rCopy4, (rCopy5, (rCopy6, (rCopy7, (rCopy8, (rCopy9, (rCopy10, (rCopy11, (lrCopy, (lrCopy2, lrCopy3))))))))))))) (0 : Int))
 (zq1ot p_ a (fun (rrefused : Int) =>
 cond (!decide (rrefused = (0 : Int)))
 (k zq17 rrefused)
 (let l : List Int := ([a.1] : List Int);
 cond (decide ((List.length lrCopy3 + List.length l) * 8 ≤ roomMax))
 (let l2 : List Int := (lrCopy3 ++ l);
 let t : Bool := (decide (a.2.2.2.1 = (1 : Int)));
 cond t
 (cond (decide (p_.2.2.2.2.2.1 = (1 : Int)))
 (k (rCopy, (rCopy2, (rCopy3, (rCopy4, (rCopy5, (rCopy6, (rCopy7, (rCopy8, (p_.2.2.2.2.2.2.2.2.1, (rCopy10, (rCopy11, (lrCopy, (lrCopy2, l2))))))))))))) (0 : Int))
 (k (rCopy, (rCopy2, (rCopy3, (rCopy4, (rCopy5, ((1 : Int), (a.2.2.1, (rCopy8, (a.2.2.2.2.2, (rCopy10, (rCopy11, (lrCopy, (lrCopy2, l2))))))))))))) (0 : Int)))
 (let t2 : Bool := (decide (a.2.2.2.1 = (2 : Int)));
 cond t2
 (zq1oq p_ (fun (lrCalled : List Int) =>
 zqyh lrCalled a.2.2.1 (fun (rHas2 : Bool) =>
 cond rHas2
 (zq1oo lrCopy2 a.2.2.1 (fun (lrWith : List Int) =>
 p2 (fun (t8 : zqs) (out : Int) (out2 : Int) (out3 : Int) (out4 : Int) (out5 : Int) (out6 : Int) (out7 : Int) (out8 : Int) (out9 : Int) (out10 : Int) (out11 : Int) (b2_ : List t2y) (b3_ : List Int) (b4_ : List Int) =>
 k (out, (out2, (out3, (out4, (out5, (out6, (out7, (out8, (out9, (out10, (out11, (b2_, (b3_, b4_))))))))))))) (0 : Int)) p_ a zq17 rCopy rCopy2 rCopy3 rCopy4 rCopy5 rCopy6 rCopy7 rCopy8 a.2.2.2.2.2 rCopy10 rCopy11 lrCalled lrCopy lrWith l2))
 (p2 (fun (t8 : zqs) (out : Int) (out2 : Int) (out3 : Int) (out4 : Int) (out5 : Int) (out6 : Int) (out7 : Int) (out8 : Int) (out9 : Int) (out10 : Int) (out11 : Int) (b2_ : List t2y) (b3_ : List Int) (b4_ : List Int) =>
 k (out, (out2, (out3, (out4, (out5, (out6, (out7, (out8, (out9, (out10, (out11, (b2_, (b3_, b4_))))))))))))) (0 : Int)) p_ a zq17 rCopy rCopy2 rCopy3 rCopy4 rCopy5 rCopy6 rCopy7 rCopy8 a.2.2.2.2.2 rCopy10 rCopy11 lrCalled lrCopy lrCopy2 l2))))
 (let t3 : Bool := (decide (a.2.2.2.1 = (3 : Int)));
 cond t3
 (k (rCopy, (rCopy2, (rCopy3, (rCopy4, (rCopy5, ((2 : Int), (a.2.2.1, ((IntKind.i64.wrap (a.2.2.2.2.2 + a.2.2.2.2.1)), (a.2.2.2.2.2, ((IntKind.i64.wrap (p_.2.2.2.2.2.2.2.2.2.1 + (1 : Int))), (rCopy11, (lrCopy, (lrCopy2, l2))))))))))))) (0 : Int))
 (let t4 : Bool := (decide (a.2.2.2.1 = (4 : Int)));
 cond t4
 (let l3 : List Int := ([a.2.2.2.2.1] : List Int);
 let l4 : List t2y := ([((-1 : Int), (a.2.2.2.2.2, l3))] : List t2y);
 cond (decide ((List.length lrCopy + List.length l4) * 40 ≤ roomMax))
 (let l5 : List t2y := (lrCopy ++ l4);
 k (rCopy, (rCopy2, (rCopy3, (rCopy4, ((IntKind.i64.wrap (a.2.2.2.2.2 + (600 : Int))), ((0 : Int), (rCopy7, (rCopy8, (a.2.2.2.2.2, (rCopy10, ((IntKind.i64.wrap (p_.2.2.2.2.2.2.2.2.2.2.1 + (1 : Int))), (l5, (([] : List Int), l2))))))))))))) (0 : Int))
 none)
 (let t5 : Bool := (decide (a.2.2.2.1 = (5 : Int)));
 cond t5
 (k (rCopy, (rCopy2, (rCopy3, (rCopy4, (rCopy5, ((4 : Int), (a.2.2.1, (rCopy8, (a.2.2.2.2.2, (rCopy10, (rCopy11, (lrCopy, (lrCopy2, l2))))))))))))) (0 : Int))
 (k (rCopy, (rCopy2, (rCopy3, (rCopy4, (rCopy5, (rCopy6, (rCopy7, (rCopy8, (a.2.2.2.2.2, (rCopy10, (rCopy11, (lrCopy, (lrCopy2, l2))))))))))))) (0 : Int)))))))
 none))))))))))
theorem zq17v (hΓ : GO (zq17n zqyh zq1oo zq1op zq1oq zq1or zq1os zq1ot)) (p2 : zq17k) (hp2 : OK zq17l (zq17m p2)) : SpecOk Tryz.prog 31 (zq17c (zq17u zqyh zq1oo zq1op zq1oq zq1or zq1os zq1ot p2)) :=
 pcS mixed (zq17n zqyh zq1oo zq1op zq1oq zq1or zq1os zq1ot) tab_ok hΓ (pick1 [(130747, zq17l.cut (zq17m p2))]) [.cell 8 50, .tmp 9] Tryz.func31 (by kernel_rfl) (by kernel_rfl) (by kernel_rfl) (by kernel_rfl) (CutsOk_cons (by kernel_rfl) rfl hp2 CutsOk_nil) (fun _ _ => by kernel_rfl)
end
theorem zq17wΓ : GO (zq17n zq2g zqab zqbm zqd8 zqwo zqav zqd0) := (ΓOk_cons zq2h (ΓOk_cons zqac (ΓOk_cons zqbn (ΓOk_cons zqd9 (ΓOk_cons zqwp (ΓOk_cons zqaw (ΓOk_cons zqd1 ΓOk_nil)))))))
def zq17x (m : Nat) : zq17f := zq17p zq2g m
theorem zq17y {β : Type} (i : Nat) (k1) : zq17x (β := β) (i + 1) k1 = zq17o zq2g (zq17x i k1) k1 := rfl
def zq17z : zq17f := zq17x fuel
theorem zq180 : OK zq17g (zq17h zq17z) := zq17q zq2g zqab zqbm zqd8 zqwo zqav zqd0 zq17wΓ fuel
def zq181 : zq17k := zq17s zq17z
theorem zq182 : OK zq17l (zq17m zq181) := zq17t zq2g zqab zqbm zqd8 zqwo zqav zqd0 zq17wΓ zq17z zq180
def zq183 : zq17b := zq17u zq2g zqab zqbm zqd8 zqwo zqav zqd0 zq181
theorem zq184 : SpecOk Tryz.prog 31 (zq17c zq183) := zq17v zq2g zqab zqbm zqd8 zqwo zqav zqd0 zq17wΓ zq181 zq182
abbrev zq185 := {β : Type} → zqq → (Bool → Option β) → Option β
def zq186 (c : zq185) : Spec :=
 ⟨[b33y], [], [b25y], [], fun x k => c x.1.1.1 (fun r0 => k (((r0, ()), ()), ()))⟩
abbrev zq187 (β : Type) := Bool → Option β
abbrev zq188 (β : Type) := zqq → Option β
abbrev zq189 (β : Type) := t7y → Int → zqq → Option β
abbrev zq18a := {β : Type} → zq187 β → zq188 β → zq189 β
noncomputable def zq18b : Pc := ⟨89, 0, codeAt 58 (bodyOf Tryz.f33), ⟨0, [1, 29, 30], [b23y, b62y, b21y], [b24y]⟩, [(.ret, ⟨0, [2], [b25y], []⟩), (.exit 0, ⟨0, [1], [b23y], [b24y]⟩)]⟩
@[reducible] def zq18c (p : zq18a) : zq18b.G := fun d ks => p (fun a0 => ks.1 (((a0, ()), ()), ())) (fun a0 => ks.2.1 (((), ()), ((a0, ()), ()))) d.1.2.1.1 d.1.2.2.1.1 d.2.1.1
abbrev zq18d (β : Type) := Bool → Option β
abbrev zq18e (β : Type) := zqq → Option β
abbrev zq18f := {β : Type} → zq18d β → zq18e β
noncomputable def zq18g : Pc := ⟨89, 0, codeAt 63 (bodyOf Tryz.f33), ⟨0, [1], [b23y], [b24y]⟩, [(.ret, ⟨0, [2], [b25y], []⟩)]⟩
@[reducible] def zq18h (p : zq18f) : zq18g.G := fun d ks => p (fun a0 => ks.1 (((a0, ()), ()), ())) d.2.1.1
section
variable (zqy2 : zqdi) (zq1ou : zqyn) (zqy0 : zqda) (zq1ov : zqwq) (zqy3 : zqeo) (zqy1 : zqe3) (zqym : zqwy) (zq1ow : zqx6) (zq1ox : zqew)
@[reducible] def zq18i : Ctx := cx [(63, .spec (zqdj zqy2)), (69, .spec (zqyo zq1ou)), (62, .spec (zqdb zqy0)), (61, .spec (zqwr zq1ov)), (66, .spec (zqep zqy3)), (65, .spec (zqe4 zqy1)), (64, .spec (zqwz zqym)), (67, .spec (zqx7 zq1ow)), (68, .spec (zqex zq1ox))]
def zq18j {β : Type} (rec : zq189 β) (k1 : zq187 β) (k2 : zq188 β) : zq189 β := fun t29 t30 x =>
 cond (decide (t30 < (3 : Int)))
 (cond (decide (0 ≤ t30) && decide (t30 < (List.length ([t29.1, t29.2.1, t29.2.2] : List Int) : Int)))
 (let e : Int := List.getD ([t29.1, t29.2.1, t29.2.2] : List Int) (Int.toNat t30) (0 : Int);
 zqym e (fun (rsomebody : Bool) =>
 cond (!rsomebody)
 (k1 false)
 (rec t29 (IntKind.i64.wrap (t30 + (1 : Int))) x)))
 none)
 (k2 x)
def zq18k {β : Type} (i : Nat) (k1 : zq187 β) (k2 : zq188 β) := lp3 (fun r => zq18j zqym r k1 k2) none i
theorem zq18l (hΓ : GO (zq18i zqy2 zq1ou zqy0 zq1ov zqy3 zqy1 zqym zq1ow zq1ox)) (i : Nat) : OK zq18b (zq18c (zq18k zqym i)) :=
 pcL mixed (zq18i zqy2 zq1ou zqy0 zq1ov zqy3 zqy1 zqym zq1ow zq1ox) tab_ok hΓ (G := fun i => @fun β d ks => zq18c (zq18k zqym i) d ks) (pick1 []) (by kernel_rfl) rfl (by kernel_rfl) CutsOk_nil (fun _ _ => rfl) (fun _ _ _ _ => by kernel_rfl) i
def zq18m {β : Type} (k1 : zq18d β) : zq18e β := fun x =>
 zq1ow x (fun (rtasks : Bool) =>
 cond rtasks
 (zq1ox x (fun (rupdates : Bool) =>
 cond rupdates
 (zq1ou x (fun (rchanges : Bool) =>
 k1 rchanges))
 (k1 false)))
 (k1 false))
def zq18n {β : Type} (k1 : zq18d β) : zq18e β := zq18m zq1ou zq1ow zq1ox k1
theorem zq18o (hΓ : GO (zq18i zqy2 zq1ou zqy0 zq1ov zqy3 zqy1 zqym zq1ow zq1ox)) : OK zq18g (zq18h (zq18n zq1ou zq1ow zq1ox)) :=
 pcE mixed (zq18i zqy2 zq1ou zqy0 zq1ov zqy3 zqy1 zqym zq1ow zq1ox) tab_ok hΓ 63 (pick1 []) (by kernel_rfl) CutsOk_nil (fun _ _ => by kernel_rfl)
def zq18p (p1 : zq18a) (p2 : zq18f) : zq185 := fun x k =>
 zq1ov x.1 (fun (rnumber : Bool) =>
 cond (!rnumber)
 (k false)
 (zqy0 x.2.2.1 (1 : Int) (5 : Int) (fun (rin : Bool) =>
 cond (!rin)
 (k false)
 (zqy0 x.2.2.2.1 (0 : Int) (8589934592 : Int) (fun (rin2 : Bool) =>
 cond (!rin2)
 (k false)
 (zqy2 x.2.2.2.2.1 (fun (rText : Bool) =>
 cond (!rText)
 (k false)
 (p1 (fun (t2 : Bool) =>
 k t2) (fun (x2 : zqq) =>
 zqy1 x2.2.2.2.2.2.2.1 (1 : Int) (999999 : Int) (fun (rset : Bool) =>
 cond (!rset)
 (k false)
 (cond (decide ((64 : Int) < (List.length x2.2.2.2.2.2.2.1 : Int)))
 (k false)
 (zqy3 x2.2.2.2.2.2.2.2.2.2.1 (fun (rpersons : Bool) =>
 cond (!rpersons)
 (k false)
 (let merged : Bool := (decide (x2.2.1 = (4 : Int)));
 cond merged
 (zq1ov x2.2.2.2.2.2.2.2.2.2.2.2 (fun (rnumber2 : Bool) =>
 cond (!rnumber2)
 (k false)
 (cond (decide (x2.2.2.2.2.2.2.2.2.2.2.2 = x2.1))
 (k false)
 (cond (!merged)
 (cond (!decide (x2.2.2.2.2.2.2.2.2.2.2.2 = (0 : Int)))
 (k false)
 (p2 (fun (t2 : Bool) =>
 k t2) x2))
 (p2 (fun (t2 : Bool) =>
 k t2) x2)))))
 (cond (!merged)
 (cond (!decide (x2.2.2.2.2.2.2.2.2.2.2.2 = (0 : Int)))
 (k false)
 (p2 (fun (t2 : Bool) =>
 k t2) x2))
 (p2 (fun (t2 : Bool) =>
 k t2) x2)))))))) x.2.2.2.2.2.1 (0 : Int) x))))))))
theorem zq18q (hΓ : GO (zq18i zqy2 zq1ou zqy0 zq1ov zqy3 zqy1 zqym zq1ow zq1ox)) (p1 : zq18a) (p2 : zq18f) (hp1 : OK zq18b (zq18c p1)) (hp2 : OK zq18g (zq18h p2)) : SpecOk Tryz.prog 33 (zq186 (zq18p zqy2 zqy0 zq1ov zqy3 zqy1 p1 p2)) :=
 pcS mixed (zq18i zqy2 zq1ou zqy0 zq1ov zqy3 zqy1 zqym zq1ow zq1ox) tab_ok hΓ (pick1 [(58, zq18b.cut (zq18c p1)), (63, zq18g.cut (zq18h p2))]) [.tmp 2] Tryz.func33 (by kernel_rfl) (by kernel_rfl) (by kernel_rfl) (by kernel_rfl) (CutsOk_cons (by kernel_rfl) rfl hp1 (CutsOk_cons (by kernel_rfl) rfl hp2 CutsOk_nil)) (fun _ _ => by kernel_rfl)
end
theorem zq18rΓ : GO (zq18i zqe1 zqz6 zqdg zqww zqeu zqem zqx4 zqxp zqff) := (ΓOk_cons zqe2 (ΓOk_cons zqz7 (ΓOk_cons zqdh (ΓOk_cons zqwx (ΓOk_cons zqev (ΓOk_cons zqen (ΓOk_cons zqx5 (ΓOk_cons zqxq (ΓOk_cons zqfg ΓOk_nil)))))))))
def zq18s (m : Nat) : zq18a := zq18k zqx4 m
theorem zq18t {β : Type} (i : Nat) (k1 k2) : zq18s (β := β) (i + 1) k1 k2 = zq18j zqx4 (zq18s i k1 k2) k1 k2 := rfl
def zq18u : zq18a := zq18s fuel
theorem zq18v : OK zq18b (zq18c zq18u) := zq18l zqe1 zqz6 zqdg zqww zqeu zqem zqx4 zqxp zqff zq18rΓ fuel
def zq18w : zq18f := zq18n zqz6 zqxp zqff
theorem zq18x : OK zq18g (zq18h zq18w) := zq18o zqe1 zqz6 zqdg zqww zqeu zqem zqx4 zqxp zqff zq18rΓ
def zq18y : zq185 := zq18p zqe1 zqdg zqww zqeu zqem zq18u zq18w
theorem zq18z : SpecOk Tryz.prog 33 (zq186 zq18y) := zq18q zqe1 zqz6 zqdg zqww zqeu zqem zqx4 zqxp zqff zq18rΓ zq18u zq18w zq18v zq18x
abbrev zq190 := {β : Type} → t20y → Int → (Int → Option β) → Option β
def zq191 (c : zq190) : Spec :=
 ⟨[(false, [.data (.slice .str)]), b21y], [], [b21y], [], fun x k => c x.1.1.1 x.1.2.1.1 (fun r0 => k (((r0, ()), ()), ()))⟩
abbrev zq192 (β : Type) := Int → Option β
abbrev zq193 (β : Type) := Unit → Option β
abbrev zq194 (β : Type) := t20y → Int → Int → Option β
abbrev zq195 := {β : Type} → zq192 β → zq193 β → zq194 β
noncomputable def zq196 : Pc := ⟨26, 0, codeAt 58 (bodyOf Tryz.f125), ⟨0, [0, 1, 5], [(false, [.data (.slice .str)]), b21y, b21y], []⟩, [(.ret, ⟨0, [4], [b21y], []⟩), (.exit 0, ⟨0, [], [], []⟩)]⟩
@[reducible] def zq197 (p : zq195) : zq196.G := fun d ks => p (fun a0 => ks.1 (((a0, ()), ()), ())) (fun _ => ks.2.1 ((), ())) d.1.1.1 d.1.2.1.1 d.1.2.2.1.1
section
variable (zq1oy : zq12l)
@[reducible] def zq198 : Ctx := cx [(138, .spec (zq12m zq1oy))]
def zq199 {β : Type} (rec : zq194 β) (k1 : zq192 β) (k2 : zq193 β) : zq194 β := fun l i_ k_ =>
 cond (decide (k_ < i_))
 (cond (decide (0 ≤ k_) && decide (k_ < (List.length l : Int)))
 (let e : List UInt8 := List.getD l (Int.toNat k_) ([] : List UInt8);
 cond (decide (0 ≤ i_) && decide (i_ < (List.length l : Int)))
 (let e2 : List UInt8 := List.getD l (Int.toNat i_) ([] : List UInt8);
 cond (decide (e = e2))
 (k1 (4 : Int))
 (let k_2 : Int := (IntKind.i64.wrap (k_ + (1 : Int)));
 rec l i_ k_2))
 none)
 none)
 (k2 ())
def zq19a {β : Type} (i : Nat) (k1 : zq192 β) (k2 : zq193 β) := lp3 (fun r => zq199 r k1 k2) none i
theorem zq19b (hΓ : GO (zq198 zq1oy)) (i : Nat) : OK zq196 (zq197 (zq19a i)) :=
 pcL mixed (zq198 zq1oy) tab_ok hΓ (G := fun i => @fun β d ks => zq197 (zq19a i) d ks) (pick1 []) (by kernel_rfl) rfl (by kernel_rfl) CutsOk_nil (fun _ _ => rfl) (fun _ _ _ _ => by kernel_rfl) i
def zq19c (p1 : zq195) : zq190 := fun l i_ k =>
 cond (decide (0 ≤ i_) && decide (i_ < (List.length l : Int)))
 (let e : List UInt8 := List.getD l (Int.toNat i_) ([] : List UInt8);
 zq1oy e (fun (rName : Bool) =>
 cond (!rName)
 (k (2 : Int))
 (p1 (fun (t4 : Int) =>
 k t4) (fun (_ : Unit) =>
 k (0 : Int)) l i_ (0 : Int))))
 none
theorem zq19d (hΓ : GO (zq198 zq1oy)) (p1 : zq195) (hp1 : OK zq196 (zq197 p1)) : SpecOk Tryz.prog 125 (zq191 (zq19c zq1oy p1)) :=
 pcS mixed (zq198 zq1oy) tab_ok hΓ (pick1 [(58, zq196.cut (zq197 p1))]) [.tmp 4] Tryz.func125 (by kernel_rfl) (by kernel_rfl) (by kernel_rfl) (by kernel_rfl) (CutsOk_cons (by kernel_rfl) rfl hp1 CutsOk_nil) (fun _ _ => by kernel_rfl)
end
theorem zq19eΓ : GO (zq198 zq134) := (ΓOk_cons zq135 ΓOk_nil)
def zq19f (m : Nat) : zq195 := zq19a m
theorem zq19g {β : Type} (i : Nat) (k1 k2) : zq19f (β := β) (i + 1) k1 k2 = zq199 (zq19f i k1 k2) k1 k2 := rfl
def zq19h : zq195 := zq19f fuel
theorem zq19i : OK zq196 (zq197 zq19h) := zq19b zq134 zq19eΓ fuel
def zq19j : zq190 := zq19c zq134 zq19h
theorem zq19k : SpecOk Tryz.prog 125 (zq191 zq19j) := zq19d zq134 zq19eΓ zq19h zq19i
abbrev zq19l := {β : Type} → t7y → (Int → Int → Option β) → Option β
def zq19m (c : zq19l) : Spec :=
 ⟨[b62y], [], [b21y, b21y], [], fun x k => c x.1.1.1 (fun r0 r1 => k (((r0, ()), (r1, ()), ()), ()))⟩
abbrev zq19n (β : Type) := Int → t7y → Option β
abbrev zq19o (β : Type) := Int → Int → t7y → Option β
abbrev zq19p := {β : Type} → zq19n β → zq19o β
noncomputable def zq19q : Pc := ⟨29, 0, codeAt 122 (bodyOf Tryz.f151), ⟨0, [1, 4, 5], [b23y, b21y, b21y], [.cells 239 [.data (.prod (.int .i64) (.prod (.int .i64) (.int .i64)))]]⟩, [(.exit 0, ⟨0, [1, 4], [b23y, b21y], [.cells 239 [.data (.prod (.int .i64) (.prod (.int .i64) (.int .i64)))]]⟩)]⟩
@[reducible] def zq19r (p : zq19p) : zq19q.G := fun d ks => p (fun a0 a1 => ks.1 (((), (a0, ()), ()), ((a1, ()), ()))) d.1.2.1.1 d.1.2.2.1.1 d.2.1.1
section
variable (zq1oj : zq136) (zq1oz : zq140) (zq1oe : zqol)
@[reducible] def zq19s : Ctx := cx [(152, .spec (zq137 zq1oj)), (155, .spec (zq141 zq1oz)), (140, .spec (zqom zq1oe))]
def zq19t {β : Type} (rec : zq19o β) (k1 : zq19n β) : zq19o β := fun n m d =>
 cond (decide (m < d.2.1))
 (zq1oj d.1 m (fun (rDays : Int) =>
 let n2 : Int := (IntKind.i64.wrap (n + rDays));
 let m2 : Int := (IntKind.i64.wrap (m + (1 : Int)));
 rec n2 m2 d))
 (k1 n d)
def zq19u {β : Type} (i : Nat) (k1 : zq19n β) := lp3 (fun r => zq19t zq1oj r k1) none i
theorem zq19v (hΓ : GO (zq19s zq1oj zq1oz zq1oe)) (i : Nat) : OK zq19q (zq19r (zq19u zq1oj i)) :=
 pcL mixed (zq19s zq1oj zq1oz zq1oe) tab_ok hΓ (G := fun i => @fun β d ks => zq19r (zq19u zq1oj i) d ks) (pick1 []) (by kernel_rfl) rfl (by kernel_rfl) CutsOk_nil (fun _ _ => rfl) (fun _ _ _ _ => by kernel_rfl) i
def zq19w (p1 : zq19p) : zq19l := fun d k =>
 zq1oz d (fun (rValid : Bool) =>
 cond (!rValid)
 (k (0 : Int) (1 : Int))
 (zq1oe d.1 (fun (ryear : Int) =>
 p1 (fun (n : Int) (d2 : t7y) =>
 let t : Int := (IntKind.i64.wrap ((IntKind.i64.wrap (n + d2.2.2)) - (1 : Int)));
 k t (0 : Int)) ryear (1 : Int) d)))
theorem zq19x (hΓ : GO (zq19s zq1oj zq1oz zq1oe)) (p1 : zq19p) (hp1 : OK zq19q (zq19r p1)) : SpecOk Tryz.prog 151 (zq19m (zq19w zq1oz zq1oe p1)) :=
 pcS mixed (zq19s zq1oj zq1oz zq1oe) tab_ok hΓ (pick1 [(122, zq19q.cut (zq19r p1))]) [.tmp 2, .tmp 3] Tryz.func151 (by kernel_rfl) (by kernel_rfl) (by kernel_rfl) (by kernel_rfl) (CutsOk_cons (by kernel_rfl) rfl hp1 CutsOk_nil) (fun _ _ => by kernel_rfl)
end
theorem zq19yΓ : GO (zq19s zq13y zq146 zqor) := (ΓOk_cons zq13z (ΓOk_cons zq147 (ΓOk_cons zqos ΓOk_nil)))
def zq19z (m : Nat) : zq19p := zq19u zq13y m
theorem zq1a0 {β : Type} (i : Nat) (k1) : zq19z (β := β) (i + 1) k1 = zq19t zq13y (zq19z i k1) k1 := rfl
def zq1a1 : zq19p := zq19z fuel
theorem zq1a2 : OK zq19q (zq19r zq1a1) := zq19v zq13y zq146 zqor zq19yΓ fuel
def zq1a3 : zq19l := zq19w zq146 zqor zq1a1
theorem zq1a4 : SpecOk Tryz.prog 151 (zq19m zq1a3) := zq19x zq13y zq146 zqor zq19yΓ zq1a1 zq1a2
abbrev zq1a5 := {β : Type} → t8y → (Int → Option β) → Option β
def zq1a6 (c : zq1a5) : Spec :=
 ⟨[b26y, (false, [.fn 72 []])], [], [b21y], [], fun x k => c x.1.1.1 (fun r0 => k (((r0, ()), ()), ()))⟩
abbrev zq1a7 (β : Type) := Int → Option β
abbrev zq1a8 (β : Type) := Unit → Option β
abbrev zq1a9 (β : Type) := t8y → Int → Int → Option β
abbrev zq1aa := {β : Type} → zq1a7 β → zq1a8 β → zq1a9 β
noncomputable def zq1ab : Pc := ⟨19, 0, codeAt 26 (bodyOf Tryz.f85), ⟨0, [0, 1, 7, 8], [b26y, (false, [.fn 72 []]), b21y, b21y], []⟩, [(.ret, ⟨0, [4], [b21y], []⟩), (.exit 0, ⟨0, [], [], []⟩)]⟩
@[reducible] def zq1ac (p : zq1aa) : zq1ab.G := fun d ks => p (fun a0 => ks.1 (((a0, ()), ()), ())) (fun _ => ks.2.1 ((), ())) d.1.1.1 d.1.2.2.1.1 d.1.2.2.2.1.1
section
variable (zq1p0 : zqg2)
@[reducible] def zq1ad : Ctx := cx [(72, .spec (zqg3 zq1p0))]
def zq1ae {β : Type} (rec : zq1a9 β) (k1 : zq1a7 β) (k2 : zq1a8 β) : zq1a9 β := fun s t7 t8 =>
 cond (decide (t8 < t7))
 (cond (decide (0 ≤ t8) && decide (t8 < (List.length s : Int)))
 (let e : t0y := List.getD s (Int.toNat t8) ((0 : Int), (0 : Int));
 zq1p0 e (fun (rcheck1 : Bool) =>
 cond rcheck1
 (k1 t8)
 (rec s t7 (IntKind.i64.wrap (t8 + (1 : Int))))))
 none)
 (k2 ())
def zq1af {β : Type} (i : Nat) (k1 : zq1a7 β) (k2 : zq1a8 β) := lp3 (fun r => zq1ae zq1p0 r k1 k2) none i
theorem zq1ag (hΓ : GO (zq1ad zq1p0)) (i : Nat) : OK zq1ab (zq1ac (zq1af zq1p0 i)) :=
 pcL mixed (zq1ad zq1p0) tab_ok hΓ (G := fun i => @fun β d ks => zq1ac (zq1af zq1p0 i) d ks) (pick1 []) (by kernel_rfl) rfl (by kernel_rfl) CutsOk_nil (fun _ _ => rfl) (fun _ _ _ _ => by kernel_rfl) i
def zq1ah (p1 : zq1aa) : zq1a5 := fun s k =>
 p1 (fun (t4 : Int) =>
 k t4) (fun (_ : Unit) =>
 k (-1 : Int)) s (List.length s : Int) (0 : Int)
theorem zq1ai (hΓ : GO (zq1ad zq1p0)) (p1 : zq1aa) (hp1 : OK zq1ab (zq1ac p1)) : SpecOk Tryz.prog 85 (zq1a6 (zq1ah p1)) :=
 pcS mixed (zq1ad zq1p0) tab_ok hΓ (pick1 [(26, zq1ab.cut (zq1ac p1))]) [.tmp 4] Tryz.func85 (by kernel_rfl) (by kernel_rfl) (by kernel_rfl) (by kernel_rfl) (CutsOk_cons (by kernel_rfl) rfl hp1 CutsOk_nil) (fun _ _ => by kernel_rfl)
end
theorem zq1ajΓ : GO (zq1ad zqg8) := (ΓOk_cons zqg9 ΓOk_nil)
def zq1ak (m : Nat) : zq1aa := zq1af zqg8 m
theorem zq1al {β : Type} (i : Nat) (k1 k2) : zq1ak (β := β) (i + 1) k1 k2 = zq1ae zqg8 (zq1ak i k1 k2) k1 k2 := rfl
def zq1am : zq1aa := zq1ak fuel
theorem zq1an : OK zq1ab (zq1ac zq1am) := zq1ag zqg8 zq1ajΓ fuel
def zq1ao : zq1a5 := zq1ah zq1am
theorem zq1ap : SpecOk Tryz.prog 85 (zq1a6 zq1ao) := zq1ai zqg8 zq1ajΓ zq1am zq1an
abbrev zq1aq := {β : Type} → Int → Int → t1y → (zqq → t1y → Option β) → Option β
def zq1ar (c : zq1aq) : Spec :=
 ⟨[b23y, b21y, b21y], [b22y], [b33y], [b22y], fun x k => c x.1.2.1.1 x.1.2.2.1.1 x.2.1.1 (fun r0 r1 => k (((r0, ()), ()), ((r1, ()), ())))⟩
abbrev zq1as (β : Type) := t1y → zqq → zqq → Option β
abbrev zq1at (β : Type) := Int → Int → t1y → zqq → zqq → Option β
abbrev zq1au := {β : Type} → zq1as β → zq1at β
noncomputable def zq1av : Pc := ⟨123, 1, codeAt 122 (bodyOf Tryz.f7), ⟨1, [0, 6, 7, 9, 10], [b23y, b27y, b31y, b21y, b21y], [b22y, b24y, b24y]⟩, [(.exit 0, ⟨1, [6, 7], [b27y, b31y], [b22y, b24y, b24y]⟩)]⟩
@[reducible] def zq1aw (p : zq1au) : zq1av.G := fun d ks => p (fun a0 a1 a2 => ks.1 (((), (), ()), ((a0, ()), (a1, ()), (a2, ()), ()))) d.1.2.2.2.1.1 d.1.2.2.2.2.1.1 d.2.1.1 d.2.2.1.1 d.2.2.2.1.1
abbrev zq1ax (β : Type) := Int → Int → Int → t1y → zqq → zqq → zqq → Option β
abbrev zq1ay (β : Type) := Int → Int → Int → Int → Bool → t1y → zqq → zqq → zqq → Option β
abbrev zq1az := {β : Type} → zq1ax β → zq1ay β
noncomputable def zq1b0 : Pc := ⟨123, 1, codeAt 3287 (loopBody zq1av.c), ⟨1, [0, 6, 7, 9, 10, 11, 12, 44, 57], [b23y, b27y, b31y, b21y, b21y, b38y, b21y, b21y, b25y], [b22y, b24y, b24y, b24y]⟩, [(.normal, ⟨1, [0, 6, 7, 9, 10, 11, 12], [b23y, b27y, b31y, b21y, b21y, b38y, b21y], [b22y, b24y, b24y, b24y]⟩)]⟩
@[reducible] def zq1b1 (p : zq1az) : zq1b0.G := fun d ks => p (fun a0 a1 a2 a3 a4 a5 a6 => ks.1 (((), (), (), (a0, ()), (a1, ()), (), (a2, ()), ()), ((a3, ()), (a4, ()), (a5, ()), (a6, ()), ()))) d.1.2.2.2.1.1 d.1.2.2.2.2.1.1 d.1.2.2.2.2.2.2.1.1 d.1.2.2.2.2.2.2.2.1.1 d.1.2.2.2.2.2.2.2.2.1.1 d.2.1.1 d.2.2.1.1 d.2.2.2.1.1 d.2.2.2.2.1.1
section
variable (zqxr : zq1p) (zqxs : zq2i) (zq1p1 : zq15a) (zq1p2 : zq148) (zq1p3 : zq163) (zq1p4 : zq173) (zq1p5 : zq14g) (zq1p6 : zquj) (zq1p7 : zq16b) (zq1p8 : zq16j)
@[reducible] def zq1b2 : Ctx := cx [(10, .spec (zq1q zqxr)), (19, .spec (zq2j zqxs)), (22, .spec (zq15b zq1p1)), (20, .spec (zq149 zq1p2)), (23, .spec (zq164 zq1p3)), (26, .spec (zq174 zq1p4)), (21, .spec (zq14h zq1p5)), (18, .spec (zquk zq1p6)), (24, .spec (zq16c zq1p7)), (25, .spec (zq16k zq1p8))]
def zq1b3 {β : Type} (k1 : zq1ax β) : zq1ay β := fun now i_ e t44 t57 d t6 x y =>
 cond t57
 (zqxr (5 : Int) d (fun (rNext : Int) (mrNext : t1y) =>
 zqxr (4 : Int) mrNext (fun (rNext2 : Int) (mrNext2 : t1y) =>
 zq1p5 x now rNext rNext2 (fun (rMove : zqq) (rMove2 : Int) =>
 k1 now i_ rMove2 mrNext2 t6 x rMove))))
 (let t : Bool := (decide (t44 = (4 : Int)));
 cond t
 (zqxr (4 : Int) d (fun (rNext : Int) (mrNext : t1y) =>
 zq1p1 x now rNext ([100, 111, 32, 105, 116] : List UInt8) (fun (rAdd : zqq) (rAdd2 : Int) =>
 k1 now i_ rAdd2 mrNext t6 x rAdd)))
 (let t2 : Bool := (decide (t44 = (5 : Int)));
 cond t2
 (zqxr (3 : Int) d (fun (rNext : Int) (mrNext : t1y) =>
 zq1p3 x rNext now (fun (rFinish : zqq) (rFinish2 : Int) =>
 k1 now i_ rFinish2 mrNext t6 x rFinish)))
 (let t3 : Bool := (decide (t44 = (6 : Int)));
 cond t3
 (zqxr (6 : Int) d (fun (rNext : Int) (mrNext : t1y) =>
 zq1p7 x rNext (fun (rSubscribe : zqq) (rSubscribe2 : Int) =>
 k1 now i_ rSubscribe2 mrNext t6 x rSubscribe)))
 (let t4 : Bool := (decide (t44 = (7 : Int)));
 cond t4
 (zq1p8 x now ([110, 101, 119, 115] : List UInt8) (fun (rTell : zqq) (rTell2 : Int) (lrTell : List Int) =>
 k1 now i_ rTell2 d t6 x rTell))
 (let t5 : Bool := (decide (t44 = (8 : Int)));
 cond t5
 (zqxr (5 : Int) d (fun (rNext : Int) (mrNext : t1y) =>
 zq1p4 x (IntKind.i64.wrap ((1 : Int) + rNext)) (fun (rLink : zqq) (rLink2 : Int) =>
 k1 now i_ rLink2 mrNext t6 x rLink)))
 (k1 now i_ e d t6 x y))))))
def zq1b4 {β : Type} (k1 : zq1ax β) : zq1ay β := zq1b3 zqxr zq1p1 zq1p3 zq1p4 zq1p5 zq1p7 zq1p8 k1
theorem zq1b5 (hΓ : GO (zq1b2 zqxr zqxs zq1p1 zq1p2 zq1p3 zq1p4 zq1p5 zq1p6 zq1p7 zq1p8)) : OK zq1b0 (zq1b1 (zq1b4 zqxr zq1p1 zq1p3 zq1p4 zq1p5 zq1p7 zq1p8)) :=
 pcE mixed (zq1b2 zqxr zqxs zq1p1 zq1p2 zq1p3 zq1p4 zq1p5 zq1p6 zq1p7 zq1p8) tab_ok hΓ 3287 (pick1 []) (by kernel_rfl) CutsOk_nil (fun _ _ => by kernel_rfl)
def zq1b6 (p1 : zq1az) {β : Type} (rec : zq1at β) (k1 : zq1as β) : zq1at β := fun now i_ d t6 x =>
 cond (decide ((0 : Int) < i_))
 (let l : List Int := ([(0 : Int), (5 : Int), (60 : Int)] : List Int);
 zqxs l d (fun (rOne : Int) (mrOne : t1y) =>
 let now2 : Int := (IntKind.i64.wrap (now + rOne));
 zqxr (9 : Int) mrOne (fun (rNext : Int) (mrNext : t1y) =>
 let t : Bool := (decide (rNext = (0 : Int)));
 cond t
 (zqxr (3 : Int) mrNext (fun (rNext2 : Int) (mrNext2 : t1y) =>
 zqxr (5 : Int) mrNext2 (fun (rNext3 : Int) (mrNext3 : t1y) =>
 zq1p2 x rNext2 (IntKind.i64.wrap (rNext3 - (1 : Int))) (fun (rAssign : zqq) (rAssign2 : Int) =>
 cond (decide (rAssign2 = (0 : Int)))
 (let i_2 : Int := (IntKind.i64.wrap (i_ - (1 : Int)));
 rec now2 i_2 mrNext3 t6 rAssign)
 (let i_2 : Int := (IntKind.i64.wrap (i_ - (1 : Int)));
 rec now2 i_2 mrNext3 t6 x)))))
 (let t2 : Bool := (decide (rNext = (1 : Int)));
 cond t2
 (p1 (fun (now3 : Int) (i_2 : Int) (e : Int) (d2 : t1y) (t62 : zqq) (x2 : zqq) (y : zqq) =>
 cond (decide (e = (0 : Int)))
 (let i_3 : Int := (IntKind.i64.wrap (i_2 - (1 : Int)));
 rec now3 i_3 d2 t62 y)
 (let i_3 : Int := (IntKind.i64.wrap (i_2 - (1 : Int)));
 rec now3 i_3 d2 t62 x2)) now2 i_ (0 : Int) rNext t2 mrNext t6 x x)
 (let t3 : Bool := (decide (rNext = (2 : Int)));
 cond t3
 (p1 (fun (now3 : Int) (i_2 : Int) (e : Int) (d2 : t1y) (t62 : zqq) (x2 : zqq) (y : zqq) =>
 cond (decide (e = (0 : Int)))
 (let i_3 : Int := (IntKind.i64.wrap (i_2 - (1 : Int)));
 rec now3 i_3 d2 t62 y)
 (let i_3 : Int := (IntKind.i64.wrap (i_2 - (1 : Int)));
 rec now3 i_3 d2 t62 x2)) now2 i_ (0 : Int) rNext t3 mrNext t6 x x)
 (let t4 : Bool := (decide (rNext = (3 : Int)));
 p1 (fun (now3 : Int) (i_2 : Int) (e : Int) (d2 : t1y) (t62 : zqq) (x2 : zqq) (y : zqq) =>
 cond (decide (e = (0 : Int)))
 (let i_3 : Int := (IntKind.i64.wrap (i_2 - (1 : Int)));
 rec now3 i_3 d2 t62 y)
 (let i_3 : Int := (IntKind.i64.wrap (i_2 - (1 : Int)));
 rec now3 i_3 d2 t62 x2)) now2 i_ (0 : Int) rNext t4 mrNext t6 x x))))))
 (k1 d t6 x)
def zq1b7 (p1 : zq1az) {β : Type} (i : Nat) (k1 : zq1as β) := lp5 (fun r => zq1b6 zqxr zqxs zq1p2 p1 r k1) none i
theorem zq1b8 (hΓ : GO (zq1b2 zqxr zqxs zq1p1 zq1p2 zq1p3 zq1p4 zq1p5 zq1p6 zq1p7 zq1p8)) (p1 : zq1az) (hp1 : OK zq1b0 (zq1b1 p1)) (i : Nat) : OK zq1av (zq1aw (zq1b7 zqxr zqxs zq1p2 p1 i)) :=
 pcL mixed (zq1b2 zqxr zqxs zq1p1 zq1p2 zq1p3 zq1p4 zq1p5 zq1p6 zq1p7 zq1p8) tab_ok hΓ (G := fun i => @fun β d ks => zq1aw (zq1b7 zqxr zqxs zq1p2 p1 i) d ks) (pick1 [(3287, zq1b0.cut (zq1b1 p1))]) (by kernel_rfl) rfl (by kernel_rfl) (CutsOk_cons (by kernel_rfl) rfl hp1 CutsOk_nil) (fun _ _ => rfl) (fun _ _ _ _ => by kernel_rfl) i
def zq1b9 (p2 : zq1au) : zq1aq := fun id n d k =>
 let l : List Int := ([(0 : Int), (50 : Int)] : List Int);
 zqxs l d (fun (rOne : Int) (mrOne : t1y) =>
 zqxr (5 : Int) mrOne (fun (rNext : Int) (mrNext : t1y) =>
 zqxr (3 : Int) mrNext (fun (rNext2 : Int) (mrNext2 : t1y) =>
 zq1p6 id (IntKind.i64.wrap ((864000 : Int) + rOne)) (IntKind.i64.wrap ((1 : Int) + rNext)) ([116, 114, 111, 117, 98, 108, 101] : List UInt8) rNext2 (fun (rOpen : zqq) (rOpen2 : Int) =>
 zqxr (IntKind.i64.wrap (n + (1 : Int))) mrNext2 (fun (rNext3 : Int) (mrNext3 : t1y) =>
 p2 (fun (b0_ : t1y) (t6 : zqq) (x : zqq) =>
 k x b0_) rOpen.2.2.2.1 rNext3 mrNext3 zq18 rOpen)))))
theorem zq1ba (hΓ : GO (zq1b2 zqxr zqxs zq1p1 zq1p2 zq1p3 zq1p4 zq1p5 zq1p6 zq1p7 zq1p8)) (p2 : zq1au) (hp2 : OK zq1av (zq1aw p2)) : SpecOk Tryz.prog 7 (zq1ar (zq1b9 zqxr zqxs zq1p6 p2)) :=
 pcS mixed (zq1b2 zqxr zqxs zq1p1 zq1p2 zq1p3 zq1p4 zq1p5 zq1p6 zq1p7 zq1p8) tab_ok hΓ (pick1 [(122, zq1av.cut (zq1aw p2))]) [.cell 6 32] Tryz.func7 (by kernel_rfl) (by kernel_rfl) (by kernel_rfl) (by kernel_rfl) (CutsOk_cons (by kernel_rfl) rfl hp2 CutsOk_nil) (fun _ _ => by kernel_rfl)
end
theorem zq1bbΓ : GO (zq1b2 zq1v zq2o zq161 zq14e zq169 zq179 zq158 zquz zq16h zq171) := (ΓOk_cons zq1w (ΓOk_cons zq2p (ΓOk_cons zq162 (ΓOk_cons zq14f (ΓOk_cons zq16a (ΓOk_cons zq17a (ΓOk_cons zq159 (ΓOk_cons zqv0 (ΓOk_cons zq16i (ΓOk_cons zq172 ΓOk_nil))))))))))
def zq1bc : zq1az := zq1b4 zq1v zq161 zq169 zq179 zq158 zq16h zq171
theorem zq1bd : OK zq1b0 (zq1b1 zq1bc) := zq1b5 zq1v zq2o zq161 zq14e zq169 zq179 zq158 zquz zq16h zq171 zq1bbΓ
def zq1be (m : Nat) : zq1au := zq1b7 zq1v zq2o zq14e zq1bc m
theorem zq1bf {β : Type} (i : Nat) (k1) : zq1be (β := β) (i + 1) k1 = zq1b6 zq1v zq2o zq14e zq1bc (zq1be i k1) k1 := rfl
def zq1bg : zq1au := zq1be fuel
theorem zq1bh : OK zq1av (zq1aw zq1bg) := zq1b8 zq1v zq2o zq161 zq14e zq169 zq179 zq158 zquz zq16h zq171 zq1bbΓ zq1bc zq1bd fuel
def zq1bi : zq1aq := zq1b9 zq1v zq2o zquz zq1bg
theorem zq1bj : SpecOk Tryz.prog 7 (zq1ar zq1bi) := zq1ba zq1v zq2o zq161 zq14e zq169 zq179 zq158 zquz zq16h zq171 zq1bbΓ zq1bg zq1bh
abbrev zq1bk := {β : Type} → zqq → t15y → (zqo → Int → Option β) → Option β
def zq1bl (c : zq1bk) : Spec :=
 ⟨[b33y, b67y], [], [(true, [.data zqp]), b21y], [], fun x k => c x.1.1.1 x.1.2.1.1 (fun r0 r1 => k (((r0, ()), (r1, ()), ()), ()))⟩
abbrev zq1bm (β : Type) := zqq → zqo → zqo → Option β
abbrev zq1bn (β : Type) := t15y → Int → Int → zqq → zqo → zqo → (List (Int × Bool)) → Option β
abbrev zq1bo := {β : Type} → zq1bm β → zq1bn β
noncomputable def zq1bp : Pc := ⟨144, 0, codeAt 250 (bodyOf Tryz.f12), ⟨0, [2, 4, 6, 7, 26, 27, 28], [b23y, b27y, b31y, (false, [.maph 3]), b67y, b21y, b21y], [b24y, b30y, b30y, .map 124 (.int .i64) .bool false]⟩, [(.exit 0, ⟨0, [2, 4, 6], [b23y, b27y, b31y], [b24y, b30y, b30y]⟩)]⟩
@[reducible] def zq1bq (p : zq1bo) : zq1bp.G := fun d ks => p (fun a0 a1 a2 => ks.1 (((), (), (), ()), ((a0, ()), (a1, ()), (a2, ()), ()))) d.1.2.2.2.2.1.1 d.1.2.2.2.2.2.1.1 d.1.2.2.2.2.2.2.1.1 d.2.1.1 d.2.2.1.1 d.2.2.2.1.1 d.2.2.2.2.1
abbrev zq1br (β : Type) := zqo → zqo → Option β
abbrev zq1bs (β : Type) := t17y → Int → Int → zqq → zqo → zqo → Option β
abbrev zq1bt := {β : Type} → zq1br β → zq1bs β
noncomputable def zq1bu : Pc := ⟨144, 0, codeAt 506 (bodyOf Tryz.f12), ⟨0, [2, 4, 6, 100, 101, 102], [b23y, b27y, b31y, b32y, b21y, b21y], [b24y, b30y, b30y]⟩, [(.exit 4, ⟨0, [4, 6], [b23y, b27y], [b30y, b30y]⟩)]⟩
@[reducible] def zq1bv (p : zq1bt) : zq1bu.G := fun d ks => p (fun a0 a1 => ks.1 (((), (), ()), ((a0, ()), (a1, ()), ()))) d.1.2.2.2.1.1 d.1.2.2.2.2.1.1 d.1.2.2.2.2.2.1.1 d.2.1.1 d.2.2.1.1 d.2.2.2.1.1
abbrev zq1bw (β : Type) := t15y → Int → Int → zqq → zqo → zqo → (List (Int × Bool)) → zqs → Option β
abbrev zq1bx (β : Type) := t15y → Int → Int → (List t2y) → Int → Int → zqq → zqo → zqo → (List (Int × Bool)) → zqs → Option β
abbrev zq1by := {β : Type} → zq1bw β → zq1bx β
noncomputable def zq1bz : Pc := ⟨144, 0, codeAt 7418 (loopBody zq1bp.c), ⟨0, [2, 4, 6, 7, 9, 26, 27, 28, 59, 60, 61], [b23y, b27y, b31y, (false, [.maph 3]), b66y, b67y, b21y, b21y, b71y, b21y, b21y], [b24y, b30y, b30y, .map 124 (.int .i64) .bool false, b28y]⟩, [(.exit 2, ⟨0, [2, 4, 6, 7, 9, 26, 27, 28], [b23y, b27y, b31y, (false, [.maph 3]), b66y, b67y, b21y, b21y], [b24y, b30y, b30y, .map 124 (.int .i64) .bool false, b28y]⟩)]⟩
@[reducible] def zq1c0 (p : zq1by) : zq1bz.G := fun d ks => p (fun a0 a1 a2 a3 a4 a5 a6 a7 => ks.1 (((), (), (), (), (), (a0, ()), (a1, ()), (a2, ()), ()), ((a3, ()), (a4, ()), (a5, ()), a6, (a7, ()), ()))) d.1.2.2.2.2.2.1.1 d.1.2.2.2.2.2.2.1.1 d.1.2.2.2.2.2.2.2.1.1 d.1.2.2.2.2.2.2.2.2.1.1 d.1.2.2.2.2.2.2.2.2.2.1.1 d.1.2.2.2.2.2.2.2.2.2.2.1.1 d.2.1.1 d.2.2.1.1 d.2.2.2.1.1 d.2.2.2.2.1 d.2.2.2.2.2.1.1
abbrev zq1c1 (β : Type) := t17y → Int → Int → zqq → zqo → zqo → Option β
abbrev zq1c2 (β : Type) := t17y → Int → Int → Bool → zqq → zqo → zqo → t7y → Option β
abbrev zq1c3 := {β : Type} → zq1c1 β → zq1c2 β
noncomputable def zq1c4 : Pc := ⟨144, 0, codeAt 231 (loopBody zq1bu.c), ⟨0, [2, 4, 6, 14, 100, 101, 102, 134], [b23y, b27y, b31y, b38y, b32y, b21y, b21y, b25y], [b24y, b30y, b30y, b47y]⟩, [(.normal, ⟨0, [2, 4, 6, 100, 101, 102], [b23y, b27y, b31y, b32y, b21y, b21y], [b24y, b30y, b30y]⟩)]⟩
@[reducible] def zq1c5 (p : zq1c3) : zq1c4.G := fun d ks => p (fun a0 a1 a2 a3 a4 a5 => ks.1 (((), (), (), (a0, ()), (a1, ()), (a2, ()), ()), ((a3, ()), (a4, ()), (a5, ()), ()))) d.1.2.2.2.2.1.1 d.1.2.2.2.2.2.1.1 d.1.2.2.2.2.2.2.1.1 d.1.2.2.2.2.2.2.2.1.1 d.2.1.1 d.2.2.1.1 d.2.2.2.1.1 d.2.2.2.2.1.1
abbrev zq1c6 (β : Type) := t17y → Int → Int → zqq → zqo → zqo → Option β
abbrev zq1c7 (β : Type) := t17y → Int → Int → zqq → zqo → zqo → t7y → Option β
abbrev zq1c8 := {β : Type} → zq1c6 β → zq1c7 β
noncomputable def zq1c9 : Pc := ⟨144, 0, codeAt 115 (loopBody zq1bu.c), ⟨0, [2, 4, 6, 14, 100, 101, 102], [b23y, b27y, b31y, b38y, b32y, b21y, b21y], [b24y, b30y, b30y, b47y]⟩, [(.normal, ⟨0, [2, 4, 6, 100, 101, 102], [b23y, b27y, b31y, b32y, b21y, b21y], [b24y, b30y, b30y]⟩)]⟩
@[reducible] def zq1ca (p : zq1c8) : zq1c9.G := fun d ks => p (fun a0 a1 a2 a3 a4 a5 => ks.1 (((), (), (), (a0, ()), (a1, ()), (a2, ()), ()), ((a3, ()), (a4, ()), (a5, ()), ()))) d.1.2.2.2.2.1.1 d.1.2.2.2.2.2.1.1 d.1.2.2.2.2.2.2.1.1 d.2.1.1 d.2.2.1.1 d.2.2.2.1.1 d.2.2.2.2.1.1
abbrev zq1cb (β : Type) := t17y → Int → Int → zqq → zqo → zqo → t7y → Option β
abbrev zq1cc (β : Type) := t17y → Int → Int → Bool → zqq → zqo → zqo → t7y → Option β
abbrev zq1cd := {β : Type} → zq1cb β → zq1cc β
noncomputable def zq1ce : Pc := ⟨144, 0, codeAt 229 (loopBody zq1bu.c), ⟨0, [2, 4, 6, 14, 100, 101, 102, 114], [b23y, b27y, b31y, b38y, b32y, b21y, b21y, b25y], [b24y, b30y, b30y, b47y]⟩, [(.normal, ⟨0, [2, 4, 6, 14, 100, 101, 102], [b23y, b27y, b31y, b38y, b32y, b21y, b21y], [b24y, b30y, b30y, b47y]⟩)]⟩
@[reducible] def zq1cf (p : zq1cd) : zq1ce.G := fun d ks => p (fun a0 a1 a2 a3 a4 a5 a6 => ks.1 (((), (), (), (), (a0, ()), (a1, ()), (a2, ()), ()), ((a3, ()), (a4, ()), (a5, ()), (a6, ()), ()))) d.1.2.2.2.2.1.1 d.1.2.2.2.2.2.1.1 d.1.2.2.2.2.2.2.1.1 d.1.2.2.2.2.2.2.2.1.1 d.2.1.1 d.2.2.1.1 d.2.2.2.1.1 d.2.2.2.2.1.1
section
variable (zq1p9 : zq185) (zq1pa : zq3w) (zq1pb : zq3o) (zq1pc : zqv9)
@[reducible] def zq1cg : Ctx := cx [(33, .spec (zq186 zq1p9)), (36, .spec (zq3x zq1pa)), (34, .spec (zq3p zq1pb)), (35, .spec (zqva zq1pc))]
def zq1ch {β : Type} (rec : zq1bx β) (k1 : zq1bw β) : zq1bx β := fun t26 t27 t28 t59 t60 t61 x t4 out seen p_ =>
 cond (decide (t61 < t60))
 (cond (decide (0 ≤ t61) && decide (t61 < (List.length t59 : Int)))
 (let e : t2y := List.getD t59 (Int.toNat t61) ((0 : Int), ((0 : Int), ([] : List Int)));
 rec t26 t27 t28 t59 t60 (IntKind.i64.wrap (t61 + (1 : Int))) x t4 (out.1, (out.2.1, (out.2.2.1, (out.2.2.2.1, (out.2.2.2.2.1, ((IntKind.i64.wrap (out.2.2.2.2.2.1 + (List.length e.2.2 : Int))), out.2.2.2.2.2.2)))))) seen p_)
 none)
 (k1 t26 t27 t28 x t4 out seen p_)
def zq1ci {β : Type} (i : Nat) (k1 : zq1bw β) := lp11 (fun r => zq1ch r k1) none i
theorem zq1cj (hΓ : GO (zq1cg zq1p9 zq1pa zq1pb zq1pc)) (i : Nat) : OK zq1bz (zq1c0 (zq1ci i)) :=
 pcL mixed (zq1cg zq1p9 zq1pa zq1pb zq1pc) tab_ok hΓ (G := fun i => @fun β d ks => zq1c0 (zq1ci i) d ks) (pick1 []) (by kernel_rfl) rfl (by kernel_rfl) CutsOk_nil (fun _ _ => rfl) (fun _ _ _ _ => by kernel_rfl) i
def zq1ck (p1 : zq1by) {β : Type} (rec : zq1bn β) (k1 : zq1bm β) : zq1bn β := fun t26 t27 t28 x t4 out seen =>
 cond (decide (t28 < t27))
 (cond (decide (0 ≤ t28) && decide (t28 < (List.length t26 : Int)))
 (let e : zqs := List.getD t26 (Int.toNat t28) ((0 : Int), ((0 : Int), ((0 : Int), ((0 : Int), ((0 : Int), ((0 : Int), ((0 : Int), ((0 : Int), ((0 : Int), ((0 : Int), ((0 : Int), (([] : List t2y), (([] : List Int), ([] : List Int))))))))))))));
 let g : Bool := (mGet (.int .i64) seen e.1 false);
 cond g
 (rec t26 t27 (IntKind.i64.wrap (t28 + (1 : Int))) x t4 out seen)
 (zq1pc x.2.2.2.2.2.2.1 e.1 (fun (rContainsintint : Bool) =>
 cond (!rContainsintint)
 (rec t26 t27 (IntKind.i64.wrap (t28 + (1 : Int))) x t4 out seen)
 (let m_ : List (Int × Bool) := (mPut (.int .i64) seen e.1 true);
 p1 (fun (t262 : List zqs) (t272 : Int) (t282 : Int) (x2 : zqq) (t42 : zqo) (out2 : zqo) (seen2 : List (Int × Bool)) (p_ : zqs) =>
 let n : Int := (if (IntKind.i64.wrap (p_.2.2.2.2.2.2.2.2.1 - x2.2.2.2.1)) > (0 : Int) then (IntKind.i64.wrap (p_.2.2.2.2.2.2.2.2.1 - x2.2.2.2.1)) else (0 : Int));
 cond (decide (p_.2.2.2.2.2.1 = (1 : Int)))
 (zq1pb  (fun (rnever : t0y) =>
 cond (decide (out2.2.1.1 = rnever.1) && (decide (out2.2.1.2 = rnever.2) && true))
 (zq1pa n (fun (rexactly : t0y) =>
 rec t262 t272 (IntKind.i64.wrap (t282 + (1 : Int))) x2 t42 (out2.1, (rexactly, out2.2.2)) seen2))
 (cond (decide (n < out2.2.1.1))
 (zq1pa n (fun (rexactly : t0y) =>
 rec t262 t272 (IntKind.i64.wrap (t282 + (1 : Int))) x2 t42 (out2.1, (rexactly, out2.2.2)) seen2))
 (rec t262 t272 (IntKind.i64.wrap (t282 + (1 : Int))) x2 t42 out2 seen2))))
 (rec t262 t272 (IntKind.i64.wrap (t282 + (1 : Int))) x2 t42 out2 seen2)) t26 t27 t28 e.2.2.2.2.2.2.2.2.2.2.2.1 (List.length e.2.2.2.2.2.2.2.2.2.2.2.1 : Int) (0 : Int) x t4 (out.1, (out.2.1, (out.2.2.1, (out.2.2.2.1, ((IntKind.i64.wrap (out.2.2.2.2.1 + (1 : Int))), (out.2.2.2.2.2.1, (IntKind.i64.wrap (out.2.2.2.2.2.2 + (List.length e.2.2.2.2.2.2.2.2.2.2.2.2.1 : Int))))))))) m_ e))))
 none)
 (k1 x t4 out)
def zq1cl (p1 : zq1by) {β : Type} (i : Nat) (k1 : zq1bm β) := lp7 (fun r => zq1ck zq1pa zq1pb zq1pc p1 r k1) none i
theorem zq1cm (hΓ : GO (zq1cg zq1p9 zq1pa zq1pb zq1pc)) (p1 : zq1by) (hp1 : OK zq1bz (zq1c0 p1)) (i : Nat) : OK zq1bp (zq1bq (zq1cl zq1pa zq1pb zq1pc p1 i)) :=
 pcL mixed (zq1cg zq1p9 zq1pa zq1pb zq1pc) tab_ok hΓ (G := fun i => @fun β d ks => zq1bq (zq1cl zq1pa zq1pb zq1pc p1 i) d ks) (pick1 [(7418, zq1bz.cut (zq1c0 p1))]) (by kernel_rfl) rfl (by kernel_rfl) (CutsOk_cons (by kernel_rfl) rfl hp1 CutsOk_nil) (fun _ _ => rfl) (fun _ _ _ _ => by kernel_rfl) i
def zq1cn {β : Type} (k1 : zq1c1 β) : zq1c2 β := fun t100 t101 t102 t134 x t4 out c =>
 cond t134
 (zq1pa (IntKind.i64.wrap (c.1 - x.2.2.2.1)) (fun (rexactly : t0y) =>
 k1 t100 t101 t102 x t4 (out.1, (out.2.1, (out.2.2.1, (rexactly, out.2.2.2.2))))))
 (k1 t100 t101 t102 x t4 out)
def zq1co {β : Type} (k1 : zq1c1 β) : zq1c2 β := zq1cn zq1pa k1
theorem zq1cp (hΓ : GO (zq1cg zq1p9 zq1pa zq1pb zq1pc)) : OK zq1c4 (zq1c5 (zq1co zq1pa)) :=
 pcE mixed (zq1cg zq1p9 zq1pa zq1pb zq1pc) tab_ok hΓ 231 (pick1 []) (by kernel_rfl) CutsOk_nil (fun _ _ => by kernel_rfl)
def zq1cq (p3 : zq1c3) {β : Type} (k1 : zq1c6 β) : zq1c7 β := fun t100 t101 t102 x t4 out c =>
 cond (decide (c.2.1 = (2 : Int)))
 (cond (decide (x.2.1 = (2 : Int)))
 (p3 (fun (t1002 : List t7y) (t1012 : Int) (t1022 : Int) (x2 : zqq) (t42 : zqo) (out2 : zqo) =>
 k1 t1002 t1012 t1022 x2 t42 out2) t100 t101 t102 true x t4 out c)
 (p3 (fun (t1002 : List t7y) (t1012 : Int) (t1022 : Int) (x2 : zqq) (t42 : zqo) (out2 : zqo) =>
 k1 t1002 t1012 t1022 x2 t42 out2) t100 t101 t102 (decide (x.2.1 = (3 : Int))) x t4 out c))
 (p3 (fun (t1002 : List t7y) (t1012 : Int) (t1022 : Int) (x2 : zqq) (t42 : zqo) (out2 : zqo) =>
 k1 t1002 t1012 t1022 x2 t42 out2) t100 t101 t102 false x t4 out c)
def zq1cr (p3 : zq1c3) {β : Type} (k1 : zq1c6 β) : zq1c7 β := zq1cq p3 k1
theorem zq1cs (hΓ : GO (zq1cg zq1p9 zq1pa zq1pb zq1pc)) (p3 : zq1c3) (hp3 : OK zq1c4 (zq1c5 p3)) : OK zq1c9 (zq1ca (zq1cr p3)) :=
 pcE mixed (zq1cg zq1p9 zq1pa zq1pb zq1pc) tab_ok hΓ 115 (pick1 [(231, zq1c4.cut (zq1c5 p3))]) (by kernel_rfl) (CutsOk_cons (by kernel_rfl) rfl hp3 CutsOk_nil) (fun _ _ => by kernel_rfl)
def zq1ct {β : Type} (k1 : zq1cb β) : zq1cc β := fun t100 t101 t102 t114 x t4 out c =>
 cond t114
 (zq1pa (IntKind.i64.wrap (c.1 - x.2.2.2.1)) (fun (rexactly : t0y) =>
 k1 t100 t101 t102 x t4 (out.1, (out.2.1, (rexactly, out.2.2.2))) c))
 (k1 t100 t101 t102 x t4 out c)
def zq1cu {β : Type} (k1 : zq1cb β) : zq1cc β := zq1ct zq1pa k1
theorem zq1cv (hΓ : GO (zq1cg zq1p9 zq1pa zq1pb zq1pc)) : OK zq1ce (zq1cf (zq1cu zq1pa)) :=
 pcE mixed (zq1cg zq1p9 zq1pa zq1pb zq1pc) tab_ok hΓ 229 (pick1 []) (by kernel_rfl) CutsOk_nil (fun _ _ => by kernel_rfl)
def zq1cw (p4 : zq1c8) (p5 : zq1cd) {β : Type} (rec : zq1bs β) (k1 : zq1br β) : zq1bs β := fun t100 t101 t102 x t4 out =>
 cond (decide (t102 < t101))
 (cond (decide (0 ≤ t102) && decide (t102 < (List.length t100 : Int)))
 (let e : t7y := List.getD t100 (Int.toNat t102) ((0 : Int), ((0 : Int), (0 : Int)));
 cond (decide (e.2.1 = (1 : Int)))
 (zq1pb  (fun (rnever : t0y) =>
 p5 (fun (t1002 : List t7y) (t1012 : Int) (t1022 : Int) (x2 : zqq) (t42 : zqo) (out2 : zqo) (c : t7y) =>
 p4 (fun (t1003 : List t7y) (t1013 : Int) (t1023 : Int) (x3 : zqq) (t43 : zqo) (out3 : zqo) =>
 rec t1003 t1013 (IntKind.i64.wrap (t1023 + (1 : Int))) x3 t43 out3) t1002 t1012 t1022 x2 t42 out2 c) t100 t101 t102 (decide (out.2.2.1.1 = rnever.1) && (decide (out.2.2.1.2 = rnever.2) && true)) x t4 out e))
 (p5 (fun (t1002 : List t7y) (t1012 : Int) (t1022 : Int) (x2 : zqq) (t42 : zqo) (out2 : zqo) (c : t7y) =>
 p4 (fun (t1003 : List t7y) (t1013 : Int) (t1023 : Int) (x3 : zqq) (t43 : zqo) (out3 : zqo) =>
 rec t1003 t1013 (IntKind.i64.wrap (t1023 + (1 : Int))) x3 t43 out3) t1002 t1012 t1022 x2 t42 out2 c) t100 t101 t102 false x t4 out e))
 none)
 (k1 t4 out)
def zq1cx (p4 : zq1c8) (p5 : zq1cd) {β : Type} (i : Nat) (k1 : zq1br β) := lp6 (fun r => zq1cw zq1pb p4 p5 r k1) none i
theorem zq1cy (hΓ : GO (zq1cg zq1p9 zq1pa zq1pb zq1pc)) (p4 : zq1c8) (p5 : zq1cd) (hp4 : OK zq1c9 (zq1ca p4)) (hp5 : OK zq1ce (zq1cf p5)) (i : Nat) : OK zq1bu (zq1bv (zq1cx zq1pb p4 p5 i)) :=
 pcL mixed (zq1cg zq1p9 zq1pa zq1pb zq1pc) tab_ok hΓ (G := fun i => @fun β d ks => zq1bv (zq1cx zq1pb p4 p5 i) d ks) (pick1 [(115, zq1c9.cut (zq1ca p4)), (229, zq1ce.cut (zq1cf p5))]) (by kernel_rfl) rfl (by kernel_rfl) (CutsOk_cons (by kernel_rfl) rfl hp4 (CutsOk_cons (by kernel_rfl) rfl hp5 CutsOk_nil)) (fun _ _ => rfl) (fun _ _ _ _ => by kernel_rfl) i
def zq1cz (p2 : zq1bo) (p6 : zq1bt) : zq1bk := fun x l k =>
 zq1p9 x (fun (rCheck : Bool) =>
 cond (!rCheck)
 (k zq15 (8 : Int))
 (zq1pb  (fun (rnever : t0y) =>
 zq1pb  (fun (rnever2 : t0y) =>
 zq1pb  (fun (rnever3 : t0y) =>
 let m_ : List (Int × Bool) := ([] : List (Int × Bool));
 p2 (fun (x2 : zqq) (t4 : zqo) (out : zqo) =>
 p6 (fun (t42 : zqo) (out2 : zqo) =>
 k out2 (0 : Int)) x2.2.2.2.2.2.2.2.2.2.2.1 (List.length x2.2.2.2.2.2.2.2.2.2.2.1 : Int) (0 : Int) x2 t4 out) l (List.length l : Int) (0 : Int) x zq15 (x.1, (rnever, (rnever2, (rnever3, ((0 : Int), ((0 : Int), (0 : Int))))))) m_)))))
theorem zq1d0 (hΓ : GO (zq1cg zq1p9 zq1pa zq1pb zq1pc)) (p2 : zq1bo) (p6 : zq1bt) (hp2 : OK zq1bp (zq1bq p2)) (hp6 : OK zq1bu (zq1bv p6)) : SpecOk Tryz.prog 12 (zq1bl (zq1cz zq1p9 zq1pb p2 p6)) :=
 pcS mixed (zq1cg zq1p9 zq1pa zq1pb zq1pc) tab_ok hΓ (pick1 [(250, zq1bp.cut (zq1bq p2)), (506, zq1bu.cut (zq1bv p6))]) [.cell 4 56, .tmp 5] Tryz.func12 (by kernel_rfl) (by kernel_rfl) (by kernel_rfl) (by kernel_rfl) (CutsOk_cons (by kernel_rfl) rfl hp2 (CutsOk_cons (by kernel_rfl) rfl hp6 CutsOk_nil)) (fun _ _ => by kernel_rfl)
end
theorem zq1d1Γ : GO (zq1cg zq18y zq42 zq3u zqvf) := (ΓOk_cons zq18z (ΓOk_cons zq43 (ΓOk_cons zq3v (ΓOk_cons zqvg ΓOk_nil))))
def zq1d2 (m : Nat) : zq1by := zq1ci m
theorem zq1d3 {β : Type} (i : Nat) (k1) : zq1d2 (β := β) (i + 1) k1 = zq1ch (zq1d2 i k1) k1 := rfl
def zq1d4 : zq1by := zq1d2 fuel
theorem zq1d5 : OK zq1bz (zq1c0 zq1d4) := zq1cj zq18y zq42 zq3u zqvf zq1d1Γ fuel
def zq1d6 (m : Nat) : zq1bo := zq1cl zq42 zq3u zqvf zq1d4 m
theorem zq1d7 {β : Type} (i : Nat) (k1) : zq1d6 (β := β) (i + 1) k1 = zq1ck zq42 zq3u zqvf zq1d4 (zq1d6 i k1) k1 := rfl
def zq1d8 : zq1bo := zq1d6 fuel
theorem zq1d9 : OK zq1bp (zq1bq zq1d8) := zq1cm zq18y zq42 zq3u zqvf zq1d1Γ zq1d4 zq1d5 fuel
def zq1da : zq1c3 := zq1co zq42
theorem zq1db : OK zq1c4 (zq1c5 zq1da) := zq1cp zq18y zq42 zq3u zqvf zq1d1Γ
def zq1dc : zq1c8 := zq1cr zq1da
theorem zq1dd : OK zq1c9 (zq1ca zq1dc) := zq1cs zq18y zq42 zq3u zqvf zq1d1Γ zq1da zq1db
def zq1de : zq1cd := zq1cu zq42
theorem zq1df : OK zq1ce (zq1cf zq1de) := zq1cv zq18y zq42 zq3u zqvf zq1d1Γ
def zq1dg (m : Nat) : zq1bt := zq1cx zq3u zq1dc zq1de m
theorem zq1dh {β : Type} (i : Nat) (k1) : zq1dg (β := β) (i + 1) k1 = zq1cw zq3u zq1dc zq1de (zq1dg i k1) k1 := rfl
def zq1di : zq1bt := zq1dg fuel
theorem zq1dj : OK zq1bu (zq1bv zq1di) := zq1cy zq18y zq42 zq3u zqvf zq1d1Γ zq1dc zq1de zq1dd zq1df fuel
def zq1dk : zq1bk := zq1cz zq18y zq3u zq1d8 zq1di
theorem zq1dl : SpecOk Tryz.prog 12 (zq1bl zq1dk) := zq1d0 zq18y zq42 zq3u zqvf zq1d1Γ zq1d8 zq1di zq1d9 zq1dj
abbrev zq1dm := {β : Type} → zqi → (Int → Option β) → Option β
def zq1dn (c : zq1dm) : Spec :=
 ⟨[b36y], [], [b21y], [], fun x k => c x.1.1.1 (fun r0 => k (((r0, ()), ()), ()))⟩
abbrev zq1do (β : Type) := Int → Option β
abbrev zq1dp (β : Type) := Unit → Option β
abbrev zq1dq (β : Type) := Int → zqi → t20y → Option β
abbrev zq1dr := {β : Type} → zq1do β → zq1dp β → zq1dq β
noncomputable def zq1ds : Pc := ⟨58, 0, codeAt 58 (bodyOf Tryz.f117), ⟨0, [1, 3, 4], [b23y, b49y, b21y], [b29y, .row 9 .str]⟩, [(.ret, ⟨0, [2], [b21y], []⟩), (.exit 0, ⟨0, [], [], []⟩)]⟩
@[reducible] def zq1dt (p : zq1dr) : zq1ds.G := fun d ks => p (fun a0 => ks.1 (((a0, ()), ()), ())) (fun _ => ks.2.1 ((), ())) d.1.2.2.1.1 d.2.1.1 d.2.2.1
section
variable (zq1og : zqka) (zq1pd : zqnc) (zqy6 : zqn4) (zq1pe : zq190)
@[reducible] def zq1du : Ctx := cx [(106, .spec (zqkb zq1og)), (129, .spec (zqnd zq1pd)), (128, .spec (zqn5 zqy6)), (125, .spec (zq191 zq1pe))]
def zq1dv {β : Type} (rec : zq1dq β) (k1 : zq1do β) (k2 : zq1dp β) : zq1dq β := fun i_ c l =>
 cond (decide (i_ < (List.length c.2.1 : Int)))
 (cond (decide (0 ≤ i_) && decide (i_ < (List.length c.2.1 : Int)))
 (let e : zqg := List.getD c.2.1 (Int.toNat i_) (([] : List UInt8), ((0 : Int), (([] : List t0y), ((0 : Int), ((0 : Int), false)))));
 let l2 : List t4y := ([e.1] : List t4y);
 cond (decide ((List.length l + List.length l2) * 16 ≤ roomMax))
 (let l3 : List t4y := (l ++ l2);
 cond (decide (e.1 = ([110, 111, 98, 111, 100, 121] : List UInt8)))
 (k1 (2 : Int))
 (zq1pe l3 i_ (fun (rname : Int) =>
 cond (!decide (rname = (0 : Int)))
 (k1 rname)
 (zqy6 e.2.1 (0 : Int) (IntKind.i64.wrap ((List.length c.1 : Int) - (1 : Int))) (fun (rin : Bool) =>
 cond (!rin)
 (k1 (3 : Int))
 (zq1og e.2.2.1 (fun (rCheck : Int) =>
 let t : Bool := (!decide (rCheck = (0 : Int)));
 cond t
 (k1 (8 : Int))
 (zq1pd e.2.2.2.1 (fun (rhours : Bool) =>
 cond (!rhours)
 (k1 (1 : Int))
 (zq1pd e.2.2.2.2.1 (fun (rhours2 : Bool) =>
 cond (!rhours2)
 (k1 (1 : Int))
 (let i_2 : Int := (IntKind.i64.wrap (i_ + (1 : Int)));
 rec i_2 c l3))))))))))))
 none)
 none)
 (k2 ())
def zq1dw {β : Type} (i : Nat) (k1 : zq1do β) (k2 : zq1dp β) := lp3 (fun r => zq1dv zq1og zq1pd zqy6 zq1pe r k1 k2) none i
theorem zq1dx (hΓ : GO (zq1du zq1og zq1pd zqy6 zq1pe)) (i : Nat) : OK zq1ds (zq1dt (zq1dw zq1og zq1pd zqy6 zq1pe i)) :=
 pcL mixed (zq1du zq1og zq1pd zqy6 zq1pe) tab_ok hΓ (G := fun i => @fun β d ks => zq1dt (zq1dw zq1og zq1pd zqy6 zq1pe i) d ks) (pick1 []) (by kernel_rfl) rfl (by kernel_rfl) CutsOk_nil (fun _ _ => rfl) (fun _ _ _ _ => by kernel_rfl) i
def zq1dy (p1 : zq1dr) : zq1dm := fun c k =>
 p1 (fun (t2 : Int) =>
 k t2) (fun (_ : Unit) =>
 k (0 : Int)) (0 : Int) c ([] : List t4y)
theorem zq1dz (hΓ : GO (zq1du zq1og zq1pd zqy6 zq1pe)) (p1 : zq1dr) (hp1 : OK zq1ds (zq1dt p1)) : SpecOk Tryz.prog 117 (zq1dn (zq1dy p1)) :=
 pcS mixed (zq1du zq1og zq1pd zqy6 zq1pe) tab_ok hΓ (pick1 [(58, zq1ds.cut (zq1dt p1))]) [.tmp 2] Tryz.func117 (by kernel_rfl) (by kernel_rfl) (by kernel_rfl) (by kernel_rfl) (CutsOk_cons (by kernel_rfl) rfl hp1 CutsOk_nil) (fun _ _ => by kernel_rfl)
end
theorem zq1e0Γ : GO (zq1du zqkt zqni zqna zq19j) := (ΓOk_cons zqku (ΓOk_cons zqnj (ΓOk_cons zqnb (ΓOk_cons zq19k ΓOk_nil))))
def zq1e1 (m : Nat) : zq1dr := zq1dw zqkt zqni zqna zq19j m
theorem zq1e2 {β : Type} (i : Nat) (k1 k2) : zq1e1 (β := β) (i + 1) k1 k2 = zq1dv zqkt zqni zqna zq19j (zq1e1 i k1 k2) k1 k2 := rfl
def zq1e3 : zq1dr := zq1e1 fuel
theorem zq1e4 : OK zq1ds (zq1dt zq1e3) := zq1dx zqkt zqni zqna zq19j zq1e0Γ fuel
def zq1e5 : zq1dm := zq1dy zq1e3
theorem zq1e6 : SpecOk Tryz.prog 117 (zq1dn zq1e5) := zq1dz zqkt zqni zqna zq19j zq1e0Γ zq1e3 zq1e4
abbrev zq1e7 := {β : Type} → zqi → (Int → Option β) → Option β
def zq1e8 (c : zq1e7) : Spec :=
 ⟨[b36y], [], [b21y], [], fun x k => c x.1.1.1 (fun r0 => k (((r0, ()), ()), ()))⟩
abbrev zq1e9 (β : Type) := Int → Option β
abbrev zq1ea (β : Type) := Unit → Option β
abbrev zq1eb (β : Type) := Int → zqi → t20y → Option β
abbrev zq1ec := {β : Type} → zq1e9 β → zq1ea β → zq1eb β
noncomputable def zq1ed : Pc := ⟨78, 0, codeAt 58 (bodyOf Tryz.f118), ⟨0, [1, 3, 4], [b23y, b49y, b21y], [b29y, .row 9 .str]⟩, [(.ret, ⟨0, [2], [b21y], []⟩), (.exit 0, ⟨0, [], [], []⟩)]⟩
@[reducible] def zq1ee (p : zq1ec) : zq1ed.G := fun d ks => p (fun a0 => ks.1 (((a0, ()), ()), ())) (fun _ => ks.2.1 ((), ())) d.1.2.2.1.1 d.2.1.1 d.2.2.1
abbrev zq1ef (β : Type) := Int → Option β
abbrev zq1eg (β : Type) := Int → zqi → t20y → zq6 → Option β
abbrev zq1eh (β : Type) := Int → Int → zqi → t20y → zq6 → Option β
abbrev zq1ei := {β : Type} → zq1ef β → zq1eg β → zq1eh β
noncomputable def zq1ej : Pc := ⟨78, 0, codeAt 3322 (loopBody zq1ed.c), ⟨0, [1, 3, 4, 5, 7], [b23y, b49y, b21y, b31y, b21y], [b29y, .row 9 .str, b69y]⟩, [(.ret, ⟨0, [2], [b21y], []⟩), (.exit 2, ⟨0, [1, 3, 4, 5], [b23y, b49y, b21y, b31y], [b29y, .row 9 .str, b69y]⟩)]⟩
@[reducible] def zq1ek (p : zq1ei) : zq1ej.G := fun d ks => p (fun a0 => ks.1 (((a0, ()), ()), ())) (fun a0 a1 a2 a3 => ks.2.1 (((), (), (a0, ()), (), ()), ((a1, ()), a2, (a3, ()), ()))) d.1.2.2.1.1 d.1.2.2.2.2.1.1 d.2.1.1 d.2.2.1 d.2.2.2.1.1
abbrev zq1el (β : Type) := Int → Option β
abbrev zq1em (β : Type) := Int → zqi → t20y → Option β
abbrev zq1en (β : Type) := Int → Int → zqi → t20y → zq6 → Option β
abbrev zq1eo := {β : Type} → zq1el β → zq1em β → zq1en β
noncomputable def zq1ep : Pc := ⟨78, 0, codeAt 3326 (loopBody zq1ed.c), ⟨0, [1, 3, 4, 5, 8], [b23y, b49y, b21y, b31y, b21y], [b29y, .row 9 .str, b69y]⟩, [(.ret, ⟨0, [2], [b21y], []⟩), (.exit 4, ⟨0, [1, 3, 4], [b23y, b49y, b21y], [b29y, .row 9 .str]⟩)]⟩
@[reducible] def zq1eq (p : zq1eo) : zq1ep.G := fun d ks => p (fun a0 => ks.1 (((a0, ()), ()), ())) (fun a0 a1 a2 => ks.2.1 (((), (), (a0, ()), ()), ((a1, ()), a2, ()))) d.1.2.2.1.1 d.1.2.2.2.2.1.1 d.2.1.1 d.2.2.1 d.2.2.2.1.1
section
variable (zq1of : zqzg) (zqy6 : zqn4) (zq1pe : zq190)
@[reducible] def zq1er : Ctx := cx [(130, .spec (zqzh zq1of)), (128, .spec (zqn5 zqy6)), (125, .spec (zq191 zq1pe))]
def zq1es {β : Type} (rec : zq1eh β) (k1 : zq1ef β) (k2 : zq1eg β) : zq1eh β := fun i_ k_ c l x =>
 cond (decide (k_ < (List.length x.2.2 : Int)))
 (cond (decide (0 ≤ k_) && decide (k_ < (List.length x.2.2 : Int)))
 (let e : Int := List.getD x.2.2 (Int.toNat k_) (0 : Int);
 zq1of  (fun (rMaxDay : Int) =>
 zqy6 e (0 : Int) rMaxDay (fun (rin : Bool) =>
 cond (!rin)
 (k1 (1 : Int))
 (let k_2 : Int := (IntKind.i64.wrap (k_ + (1 : Int)));
 rec i_ k_2 c l x))))
 none)
 (k2 i_ c l x)
def zq1et {β : Type} (i : Nat) (k1 : zq1ef β) (k2 : zq1eg β) := lp5 (fun r => zq1es zq1of zqy6 r k1 k2) none i
theorem zq1eu (hΓ : GO (zq1er zq1of zqy6 zq1pe)) (i : Nat) : OK zq1ej (zq1ek (zq1et zq1of zqy6 i)) :=
 pcL mixed (zq1er zq1of zqy6 zq1pe) tab_ok hΓ (G := fun i => @fun β d ks => zq1ek (zq1et zq1of zqy6 i) d ks) (pick1 []) (by kernel_rfl) rfl (by kernel_rfl) CutsOk_nil (fun _ _ => rfl) (fun _ _ _ _ => by kernel_rfl) i
def zq1ev {β : Type} (rec : zq1en β) (k1 : zq1el β) (k2 : zq1em β) : zq1en β := fun i_ k_ c l x =>
 cond (decide (k_ < (List.length x.2.2 : Int)))
 (cond (decide (0 ≤ k_) && decide (k_ < (List.length x.2.2 : Int)))
 (let e : Int := List.getD x.2.2 (Int.toNat k_) (0 : Int);
 cond (decide (0 ≤ (IntKind.i64.wrap (k_ - (1 : Int)))) && decide ((IntKind.i64.wrap (k_ - (1 : Int))) < (List.length x.2.2 : Int)))
 (let e2 : Int := List.getD x.2.2 (Int.toNat (IntKind.i64.wrap (k_ - (1 : Int)))) (0 : Int);
 cond (decide (e ≤ e2))
 (k1 (6 : Int))
 (let k_2 : Int := (IntKind.i64.wrap (k_ + (1 : Int)));
 rec i_ k_2 c l x))
 none)
 none)
 (k2 i_ c l)
def zq1ew {β : Type} (i : Nat) (k1 : zq1el β) (k2 : zq1em β) := lp5 (fun r => zq1ev r k1 k2) none i
theorem zq1ex (hΓ : GO (zq1er zq1of zqy6 zq1pe)) (i : Nat) : OK zq1ep (zq1eq (zq1ew i)) :=
 pcL mixed (zq1er zq1of zqy6 zq1pe) tab_ok hΓ (G := fun i => @fun β d ks => zq1eq (zq1ew i) d ks) (pick1 []) (by kernel_rfl) rfl (by kernel_rfl) CutsOk_nil (fun _ _ => rfl) (fun _ _ _ _ => by kernel_rfl) i
def zq1ey (p1 : zq1ei) (p2 : zq1eo) {β : Type} (rec : zq1eb β) (k1 : zq1e9 β) (k2 : zq1ea β) : zq1eb β := fun i_ c l =>
 cond (decide (i_ < (List.length c.2.2.1 : Int)))
 (cond (decide (0 ≤ i_) && decide (i_ < (List.length c.2.2.1 : Int)))
 (let e : zq6 := List.getD c.2.2.1 (Int.toNat i_) (([] : List UInt8), ((0 : Int), ([] : List Int)));
 let l2 : List t4y := ([e.1] : List t4y);
 cond (decide ((List.length l + List.length l2) * 16 ≤ roomMax))
 (let l3 : List t4y := (l ++ l2);
 zq1pe l3 i_ (fun (rname : Int) =>
 cond (!decide (rname = (0 : Int)))
 (k1 rname)
 (zqy6 e.2.1 (0 : Int) (IntKind.i64.wrap ((List.length c.1 : Int) - (1 : Int))) (fun (rin : Bool) =>
 cond (!rin)
 (k1 (3 : Int))
 (cond (decide ((64 : Int) < (List.length e.2.2 : Int)))
 (k1 (5 : Int))
 (p1 (fun (t2 : Int) =>
 k1 t2) (fun (i_2 : Int) (c2 : zqi) (l4 : List t4y) (x : zq6) =>
 p2 (fun (t2 : Int) =>
 k1 t2) (fun (i_3 : Int) (c3 : zqi) (l5 : List t4y) =>
 let i_4 : Int := (IntKind.i64.wrap (i_3 + (1 : Int)));
 rec i_4 c3 l5) i_2 (1 : Int) c2 l4 x) i_ (0 : Int) c l3 e))))))
 none)
 none)
 (k2 ())
def zq1ez (p1 : zq1ei) (p2 : zq1eo) {β : Type} (i : Nat) (k1 : zq1e9 β) (k2 : zq1ea β) := lp3 (fun r => zq1ey zqy6 zq1pe p1 p2 r k1 k2) none i
theorem zq1f0 (hΓ : GO (zq1er zq1of zqy6 zq1pe)) (p1 : zq1ei) (p2 : zq1eo) (hp1 : OK zq1ej (zq1ek p1)) (hp2 : OK zq1ep (zq1eq p2)) (i : Nat) : OK zq1ed (zq1ee (zq1ez zqy6 zq1pe p1 p2 i)) :=
 pcL mixed (zq1er zq1of zqy6 zq1pe) tab_ok hΓ (G := fun i => @fun β d ks => zq1ee (zq1ez zqy6 zq1pe p1 p2 i) d ks) (pick1 [(3322, zq1ej.cut (zq1ek p1)), (3326, zq1ep.cut (zq1eq p2))]) (by kernel_rfl) rfl (by kernel_rfl) (CutsOk_cons (by kernel_rfl) rfl hp1 (CutsOk_cons (by kernel_rfl) rfl hp2 CutsOk_nil)) (fun _ _ => rfl) (fun _ _ _ _ => by kernel_rfl) i
def zq1f1 (p3 : zq1ec) : zq1e7 := fun c k =>
 p3 (fun (t2 : Int) =>
 k t2) (fun (_ : Unit) =>
 k (0 : Int)) (0 : Int) c ([] : List t4y)
theorem zq1f2 (hΓ : GO (zq1er zq1of zqy6 zq1pe)) (p3 : zq1ec) (hp3 : OK zq1ed (zq1ee p3)) : SpecOk Tryz.prog 118 (zq1e8 (zq1f1 p3)) :=
 pcS mixed (zq1er zq1of zqy6 zq1pe) tab_ok hΓ (pick1 [(58, zq1ed.cut (zq1ee p3))]) [.tmp 2] Tryz.func118 (by kernel_rfl) (by kernel_rfl) (by kernel_rfl) (by kernel_rfl) (CutsOk_cons (by kernel_rfl) rfl hp3 CutsOk_nil) (fun _ _ => by kernel_rfl)
end
theorem zq1f3Γ : GO (zq1er zqzm zqna zq19j) := (ΓOk_cons zqzn (ΓOk_cons zqnb (ΓOk_cons zq19k ΓOk_nil)))
def zq1f4 (m : Nat) : zq1ei := zq1et zqzm zqna m
theorem zq1f5 {β : Type} (i : Nat) (k1 k2) : zq1f4 (β := β) (i + 1) k1 k2 = zq1es zqzm zqna (zq1f4 i k1 k2) k1 k2 := rfl
def zq1f6 : zq1ei := zq1f4 fuel
theorem zq1f7 : OK zq1ej (zq1ek zq1f6) := zq1eu zqzm zqna zq19j zq1f3Γ fuel
def zq1f8 (m : Nat) : zq1eo := zq1ew m
theorem zq1f9 {β : Type} (i : Nat) (k1 k2) : zq1f8 (β := β) (i + 1) k1 k2 = zq1ev (zq1f8 i k1 k2) k1 k2 := rfl
def zq1fa : zq1eo := zq1f8 fuel
theorem zq1fb : OK zq1ep (zq1eq zq1fa) := zq1ex zqzm zqna zq19j zq1f3Γ fuel
def zq1fc (m : Nat) : zq1ec := zq1ez zqna zq19j zq1f6 zq1fa m
theorem zq1fd {β : Type} (i : Nat) (k1 k2) : zq1fc (β := β) (i + 1) k1 k2 = zq1ey zqna zq19j zq1f6 zq1fa (zq1fc i k1 k2) k1 k2 := rfl
def zq1fe : zq1ec := zq1fc fuel
theorem zq1ff : OK zq1ed (zq1ee zq1fe) := zq1f0 zqzm zqna zq19j zq1f3Γ zq1f6 zq1fa zq1f7 zq1fb fuel
def zq1fg : zq1e7 := zq1f1 zq1fe
theorem zq1fh : SpecOk Tryz.prog 118 (zq1e8 zq1fg) := zq1f2 zqzm zqna zq19j zq1f3Γ zq1fe zq1ff
abbrev zq1fi := {β : Type} → zqi → (Int → Option β) → Option β
def zq1fj (c : zq1fi) : Spec :=
 ⟨[b36y], [], [b21y], [], fun x k => c x.1.1.1 (fun r0 => k (((r0, ()), ()), ()))⟩
abbrev zq1fk (β : Type) := Int → Option β
abbrev zq1fl (β : Type) := Unit → Option β
abbrev zq1fm (β : Type) := Int → zqi → t20y → Option β
abbrev zq1fn := {β : Type} → zq1fk β → zq1fl β → zq1fm β
noncomputable def zq1fo : Pc := ⟨95, 0, codeAt 58 (bodyOf Tryz.f119), ⟨0, [1, 3, 4], [b23y, b49y, b21y], [b29y, .row 9 .str]⟩, [(.ret, ⟨0, [2], [b21y], []⟩), (.exit 0, ⟨0, [], [], []⟩)]⟩
@[reducible] def zq1fp (p : zq1fn) : zq1fo.G := fun d ks => p (fun a0 => ks.1 (((a0, ()), ()), ())) (fun _ => ks.2.1 ((), ())) d.1.2.2.1.1 d.2.1.1 d.2.2.1
abbrev zq1fq (β : Type) := Int → Option β
abbrev zq1fr (β : Type) := Int → zqi → t20y → zqc → Option β
abbrev zq1fs (β : Type) := Int → Int → zqi → t20y → zqc → t20y → Option β
abbrev zq1ft := {β : Type} → zq1fq β → zq1fr β → zq1fs β
noncomputable def zq1fu : Pc := ⟨95, 0, codeAt 3322 (loopBody zq1fo.c), ⟨0, [1, 3, 4, 5, 7, 8], [b23y, b49y, b21y, b31y, (false, [.rowh 3]), b21y], [b29y, .row 9 .str, b65y, .row 9 .str]⟩, [(.ret, ⟨0, [2], [b21y], []⟩), (.exit 2, ⟨0, [1, 3, 4, 5], [b23y, b49y, b21y, b31y], [b29y, .row 9 .str, b65y]⟩)]⟩
@[reducible] def zq1fv (p : zq1ft) : zq1fu.G := fun d ks => p (fun a0 => ks.1 (((a0, ()), ()), ())) (fun a0 a1 a2 a3 => ks.2.1 (((), (), (a0, ()), (), ()), ((a1, ()), a2, (a3, ()), ()))) d.1.2.2.1.1 d.1.2.2.2.2.2.1.1 d.2.1.1 d.2.2.1 d.2.2.2.1.1 d.2.2.2.2.1
abbrev zq1fw (β : Type) := Int → Option β
abbrev zq1fx (β : Type) := Int → zqi → t20y → Option β
abbrev zq1fy (β : Type) := Int → Int → zqi → t20y → zqc → Option β
abbrev zq1fz := {β : Type} → zq1fw β → zq1fx β → zq1fy β
noncomputable def zq1g0 : Pc := ⟨95, 0, codeAt 3326 (loopBody zq1fo.c), ⟨0, [1, 3, 4, 5, 11], [b23y, b49y, b21y, b31y, b21y], [b29y, .row 9 .str, b65y]⟩, [(.ret, ⟨0, [2], [b21y], []⟩), (.exit 4, ⟨0, [1, 3, 4], [b23y, b49y, b21y], [b29y, .row 9 .str]⟩)]⟩
@[reducible] def zq1g1 (p : zq1fz) : zq1g0.G := fun d ks => p (fun a0 => ks.1 (((a0, ()), ()), ())) (fun a0 a1 a2 => ks.2.1 (((), (), (a0, ()), ()), ((a1, ()), a2, ()))) d.1.2.2.1.1 d.1.2.2.2.2.1.1 d.2.1.1 d.2.2.1 d.2.2.2.1.1
section
variable (zq1pf : zq115) (zq1pg : zqzo) (zq1pe : zq190)
@[reducible] def zq1g2 : Ctx := cx [(132, .spec (zq116 zq1pf)), (131, .spec (zqzp zq1pg)), (125, .spec (zq191 zq1pe))]
def zq1g3 {β : Type} (rec : zq1fs β) (k1 : zq1fq β) (k2 : zq1fr β) : zq1fs β := fun i_ k_ c l s m =>
 cond (decide (k_ < (List.length s.2.1 : Int)))
 (cond (decide (0 ≤ k_) && decide (k_ < (List.length s.2.1 : Int)))
 (let e : zq8 := List.getD s.2.1 (Int.toNat k_) (([] : List UInt8), ((0 : Int), (((0 : Int), (0 : Int)), ((0 : Int), ((0 : Int), (([] : List Int), (([] : List t0y), ((0 : Int), (0 : Int)))))))));
 let l2 : List t4y := ([e.1] : List t4y);
 cond (decide ((List.length m + List.length l2) * 16 ≤ roomMax))
 (let l3 : List t4y := (m ++ l2);
 zq1pe l3 k_ (fun (rname : Int) =>
 cond (!decide (rname = (0 : Int)))
 (k1 rname)
 (cond (decide (0 ≤ k_) && decide (k_ < (List.length s.2.1 : Int)))
 (let e2 : zq8 := List.getD s.2.1 (Int.toNat k_) (([] : List UInt8), ((0 : Int), (((0 : Int), (0 : Int)), ((0 : Int), ((0 : Int), (([] : List Int), (([] : List t0y), ((0 : Int), (0 : Int)))))))));
 zq1pg c e2 (fun (rlayer : Int) =>
 cond (!decide (rlayer = (0 : Int)))
 (k1 rlayer)
 (let k_2 : Int := (IntKind.i64.wrap (k_ + (1 : Int)));
 rec i_ k_2 c l s l3)))
 none)))
 none)
 none)
 (k2 i_ c l s)
def zq1g4 {β : Type} (i : Nat) (k1 : zq1fq β) (k2 : zq1fr β) := lp6 (fun r => zq1g3 zq1pg zq1pe r k1 k2) none i
theorem zq1g5 (hΓ : GO (zq1g2 zq1pf zq1pg zq1pe)) (i : Nat) : OK zq1fu (zq1fv (zq1g4 zq1pg zq1pe i)) :=
 pcL mixed (zq1g2 zq1pf zq1pg zq1pe) tab_ok hΓ (G := fun i => @fun β d ks => zq1fv (zq1g4 zq1pg zq1pe i) d ks) (pick1 []) (by kernel_rfl) rfl (by kernel_rfl) CutsOk_nil (fun _ _ => rfl) (fun _ _ _ _ => by kernel_rfl) i
def zq1g6 {β : Type} (rec : zq1fy β) (k1 : zq1fw β) (k2 : zq1fx β) : zq1fy β := fun i_ k_ c l s =>
 cond (decide (k_ < (List.length s.2.2 : Int)))
 (cond (decide (0 ≤ k_) && decide (k_ < (List.length s.2.2 : Int)))
 (let e : zqa := List.getD s.2.2 (Int.toNat k_) ((0 : Int), ((0 : Int), ((0 : Int), ((0 : Int), (0 : Int)))));
 zq1pf c e (fun (redit : Int) =>
 cond (!decide (redit = (0 : Int)))
 (k1 redit)
 (let k_2 : Int := (IntKind.i64.wrap (k_ + (1 : Int)));
 rec i_ k_2 c l s)))
 none)
 (k2 i_ c l)
def zq1g7 {β : Type} (i : Nat) (k1 : zq1fw β) (k2 : zq1fx β) := lp5 (fun r => zq1g6 zq1pf r k1 k2) none i
theorem zq1g8 (hΓ : GO (zq1g2 zq1pf zq1pg zq1pe)) (i : Nat) : OK zq1g0 (zq1g1 (zq1g7 zq1pf i)) :=
 pcL mixed (zq1g2 zq1pf zq1pg zq1pe) tab_ok hΓ (G := fun i => @fun β d ks => zq1g1 (zq1g7 zq1pf i) d ks) (pick1 []) (by kernel_rfl) rfl (by kernel_rfl) CutsOk_nil (fun _ _ => rfl) (fun _ _ _ _ => by kernel_rfl) i
def zq1g9 (p1 : zq1ft) (p2 : zq1fz) {β : Type} (rec : zq1fm β) (k1 : zq1fk β) (k2 : zq1fl β) : zq1fm β := fun i_ c l =>
 cond (decide (i_ < (List.length c.2.2.2 : Int)))
 (cond (decide (0 ≤ i_) && decide (i_ < (List.length c.2.2.2 : Int)))
 (let e : zqc := List.getD c.2.2.2 (Int.toNat i_) (([] : List UInt8), (([] : List zq8), ([] : List zqa)));
 let l2 : List t4y := ([e.1] : List t4y);
 cond (decide ((List.length l + List.length l2) * 16 ≤ roomMax))
 (let l3 : List t4y := (l ++ l2);
 zq1pe l3 i_ (fun (rname : Int) =>
 cond (!decide (rname = (0 : Int)))
 (k1 rname)
 (cond (decide ((6 : Int) < (List.length e.2.1 : Int)))
 (k1 (5 : Int))
 (cond (decide ((48 : Int) < (List.length e.2.2 : Int)))
 (k1 (5 : Int))
 (p1 (fun (t2 : Int) =>
 k1 t2) (fun (i_2 : Int) (c2 : zqi) (l4 : List t4y) (s : zqc) =>
 p2 (fun (t2 : Int) =>
 k1 t2) (fun (i_3 : Int) (c3 : zqi) (l5 : List t4y) =>
 let i_4 : Int := (IntKind.i64.wrap (i_3 + (1 : Int)));
 rec i_4 c3 l5) i_2 (0 : Int) c2 l4 s) i_ (0 : Int) c l3 e ([] : List t4y))))))
 none)
 none)
 (k2 ())
def zq1ga (p1 : zq1ft) (p2 : zq1fz) {β : Type} (i : Nat) (k1 : zq1fk β) (k2 : zq1fl β) := lp3 (fun r => zq1g9 zq1pe p1 p2 r k1 k2) none i
theorem zq1gb (hΓ : GO (zq1g2 zq1pf zq1pg zq1pe)) (p1 : zq1ft) (p2 : zq1fz) (hp1 : OK zq1fu (zq1fv p1)) (hp2 : OK zq1g0 (zq1g1 p2)) (i : Nat) : OK zq1fo (zq1fp (zq1ga zq1pe p1 p2 i)) :=
 pcL mixed (zq1g2 zq1pf zq1pg zq1pe) tab_ok hΓ (G := fun i => @fun β d ks => zq1fp (zq1ga zq1pe p1 p2 i) d ks) (pick1 [(3322, zq1fu.cut (zq1fv p1)), (3326, zq1g0.cut (zq1g1 p2))]) (by kernel_rfl) rfl (by kernel_rfl) (CutsOk_cons (by kernel_rfl) rfl hp1 (CutsOk_cons (by kernel_rfl) rfl hp2 CutsOk_nil)) (fun _ _ => rfl) (fun _ _ _ _ => by kernel_rfl) i
def zq1gc (p3 : zq1fn) : zq1fi := fun c k =>
 p3 (fun (t2 : Int) =>
 k t2) (fun (_ : Unit) =>
 k (0 : Int)) (0 : Int) c ([] : List t4y)
theorem zq1gd (hΓ : GO (zq1g2 zq1pf zq1pg zq1pe)) (p3 : zq1fn) (hp3 : OK zq1fo (zq1fp p3)) : SpecOk Tryz.prog 119 (zq1fj (zq1gc p3)) :=
 pcS mixed (zq1g2 zq1pf zq1pg zq1pe) tab_ok hΓ (pick1 [(58, zq1fo.cut (zq1fp p3))]) [.tmp 2] Tryz.func119 (by kernel_rfl) (by kernel_rfl) (by kernel_rfl) (by kernel_rfl) (CutsOk_cons (by kernel_rfl) rfl hp3 CutsOk_nil) (fun _ _ => by kernel_rfl)
end
theorem zq1geΓ : GO (zq1g2 zq12j zq113 zq19j) := (ΓOk_cons zq12k (ΓOk_cons zq114 (ΓOk_cons zq19k ΓOk_nil)))
def zq1gf (m : Nat) : zq1ft := zq1g4 zq113 zq19j m
theorem zq1gg {β : Type} (i : Nat) (k1 k2) : zq1gf (β := β) (i + 1) k1 k2 = zq1g3 zq113 zq19j (zq1gf i k1 k2) k1 k2 := rfl
def zq1gh : zq1ft := zq1gf fuel
theorem zq1gi : OK zq1fu (zq1fv zq1gh) := zq1g5 zq12j zq113 zq19j zq1geΓ fuel
def zq1gj (m : Nat) : zq1fz := zq1g7 zq12j m
theorem zq1gk {β : Type} (i : Nat) (k1 k2) : zq1gj (β := β) (i + 1) k1 k2 = zq1g6 zq12j (zq1gj i k1 k2) k1 k2 := rfl
def zq1gl : zq1fz := zq1gj fuel
theorem zq1gm : OK zq1g0 (zq1g1 zq1gl) := zq1g8 zq12j zq113 zq19j zq1geΓ fuel
def zq1gn (m : Nat) : zq1fn := zq1ga zq19j zq1gh zq1gl m
theorem zq1go {β : Type} (i : Nat) (k1 k2) : zq1gn (β := β) (i + 1) k1 k2 = zq1g9 zq19j zq1gh zq1gl (zq1gn i k1 k2) k1 k2 := rfl
def zq1gp : zq1fn := zq1gn fuel
theorem zq1gq : OK zq1fo (zq1fp zq1gp) := zq1gb zq12j zq113 zq19j zq1geΓ zq1gh zq1gl zq1gi zq1gm fuel
def zq1gr : zq1fi := zq1gc zq1gp
theorem zq1gs : SpecOk Tryz.prog 119 (zq1fj zq1gr) := zq1gd zq12j zq113 zq19j zq1geΓ zq1gp zq1gq
abbrev zq1gt := {β : Type} → Int → Int → Int → Int → (Int → Int → Option β) → Option β
def zq1gu (c : zq1gt) : Spec :=
 ⟨[b21y, b21y, b21y, b21y], [], [b21y, b21y], [], fun x k => c x.1.1.1 x.1.2.1.1 x.1.2.2.1.1 x.1.2.2.2.1.1 (fun r0 r1 => k (((r0, ()), (r1, ()), ()), ()))⟩
abbrev zq1gv (β : Type) := Int → Int → Int → Int → Int → Option β
abbrev zq1gw (β : Type) := Int → Int → Int → Int → Int → Int → Option β
abbrev zq1gx := {β : Type} → zq1gv β → zq1gw β
noncomputable def zq1gy : Pc := ⟨63, 0, codeAt 124 (bodyOf Tryz.f148), ⟨0, [0, 1, 2, 3, 10, 12], [b21y, b21y, b21y, b21y, b21y, b21y], []⟩, [(.exit 0, ⟨0, [0, 1, 2, 10, 12], [b21y, b21y, b21y, b21y, b21y], []⟩)]⟩
@[reducible] def zq1gz (p : zq1gx) : zq1gy.G := fun d ks => p (fun a0 a1 a2 a3 a4 => ks.1 (((a0, ()), (a1, ()), (a2, ()), (a3, ()), (a4, ()), ()), ())) d.1.1.1 d.1.2.1.1 d.1.2.2.1.1 d.1.2.2.2.1.1 d.1.2.2.2.2.1.1 d.1.2.2.2.2.2.1.1
abbrev zq1h0 (β : Type) := Int → Option β
abbrev zq1h1 (β : Type) := Int → Int → Int → Int → Option β
abbrev zq1h2 := {β : Type} → zq1h0 β → zq1h1 β
noncomputable def zq1h3 : Pc := ⟨63, 0, codeAt 508 (bodyOf Tryz.f148), ⟨0, [0, 1, 10, 12], [b21y, b21y, b21y, b21y], []⟩, [(.exit 2, ⟨0, [12], [b21y], []⟩)]⟩
@[reducible] def zq1h4 (p : zq1h2) : zq1h3.G := fun d ks => p (fun a0 => ks.1 (((a0, ()), ()), ())) d.1.1.1 d.1.2.1.1 d.1.2.2.1.1 d.1.2.2.2.1.1
section
variable (zq1ph : zq19l) (zq1oj : zq136) (zq1od : zqns)
@[reducible] def zq1h5 : Ctx := cx [(151, .spec (zq19m zq1ph)), (152, .spec (zq137 zq1oj)), (135, .spec (zqnt zq1od))]
def zq1h6 {β : Type} (rec : zq1gw β) (k1 : zq1gv β) : zq1gw β := fun y month week weekday first day =>
 zq1od day (fun (rWeekday : Int) =>
 cond (!decide (rWeekday = weekday))
 (let day2 : Int := (IntKind.i64.wrap (day + (1 : Int)));
 rec y month week weekday first day2)
 (k1 y month week first day))
def zq1h7 {β : Type} (i : Nat) (k1 : zq1gv β) := lp6 (fun r => zq1h6 zq1od r k1) none i
theorem zq1h8 (hΓ : GO (zq1h5 zq1ph zq1oj zq1od)) (i : Nat) : OK zq1gy (zq1gz (zq1h7 zq1od i)) :=
 pcL mixed (zq1h5 zq1ph zq1oj zq1od) tab_ok hΓ (G := fun i => @fun β d ks => zq1gz (zq1h7 zq1od i) d ks) (pick1 []) (by kernel_rfl) rfl (by kernel_rfl) CutsOk_nil (fun _ _ => rfl) (fun _ _ _ _ => by kernel_rfl) i
def zq1h9 {β : Type} (rec : zq1h1 β) (k1 : zq1h0 β) : zq1h1 β := fun y month first day =>
 zq1oj y month (fun (rDays : Int) =>
 cond (decide ((IntKind.i64.wrap (day + (7 : Int))) < (IntKind.i64.wrap (first + rDays))))
 (let day2 : Int := (IntKind.i64.wrap (day + (7 : Int)));
 rec y month first day2)
 (k1 day))
def zq1ha {β : Type} (i : Nat) (k1 : zq1h0 β) := lp4 (fun r => zq1h9 zq1oj r k1) none i
theorem zq1hb (hΓ : GO (zq1h5 zq1ph zq1oj zq1od)) (i : Nat) : OK zq1h3 (zq1h4 (zq1ha zq1oj i)) :=
 pcL mixed (zq1h5 zq1ph zq1oj zq1od) tab_ok hΓ (G := fun i => @fun β d ks => zq1h4 (zq1ha zq1oj i) d ks) (pick1 []) (by kernel_rfl) rfl (by kernel_rfl) CutsOk_nil (fun _ _ => rfl) (fun _ _ _ _ => by kernel_rfl) i
def zq1hc (p1 : zq1gx) (p2 : zq1h2) : zq1gt := fun y month week weekday k =>
 zq1ph (y, (month, (1 : Int))) (fun (rDay : Int) (rDay2 : Int) =>
 cond (!decide (rDay2 = (0 : Int)))
 (k (0 : Int) (1 : Int))
 (cond (decide (week < (1 : Int)))
 (k (0 : Int) (1 : Int))
 (cond (decide ((5 : Int) < week))
 (k (0 : Int) (1 : Int))
 (cond (decide (weekday < (0 : Int)))
 (k (0 : Int) (1 : Int))
 (cond (decide ((6 : Int) < weekday))
 (k (0 : Int) (1 : Int))
 (p1 (fun (y2 : Int) (month2 : Int) (week2 : Int) (first : Int) (day : Int) =>
 cond (decide (week2 < (5 : Int)))
 (let t : Int := (IntKind.i64.wrap (day + (IntKind.i64.wrap ((7 : Int) * (IntKind.i64.wrap (week2 - (1 : Int)))))));
 k t (0 : Int))
 (p2 (fun (day2 : Int) =>
 k day2 (0 : Int)) y2 month2 first day)) y month week weekday rDay rDay))))))
theorem zq1hd (hΓ : GO (zq1h5 zq1ph zq1oj zq1od)) (p1 : zq1gx) (p2 : zq1h2) (hp1 : OK zq1gy (zq1gz p1)) (hp2 : OK zq1h3 (zq1h4 p2)) : SpecOk Tryz.prog 148 (zq1gu (zq1hc zq1ph p1 p2)) :=
 pcS mixed (zq1h5 zq1ph zq1oj zq1od) tab_ok hΓ (pick1 [(124, zq1gy.cut (zq1gz p1)), (508, zq1h3.cut (zq1h4 p2))]) [.tmp 8, .tmp 9] Tryz.func148 (by kernel_rfl) (by kernel_rfl) (by kernel_rfl) (by kernel_rfl) (CutsOk_cons (by kernel_rfl) rfl hp1 (CutsOk_cons (by kernel_rfl) rfl hp2 CutsOk_nil)) (fun _ _ => by kernel_rfl)
end
theorem zq1heΓ : GO (zq1h5 zq1a3 zq13y zqny) := (ΓOk_cons zq1a4 (ΓOk_cons zq13z (ΓOk_cons zqnz ΓOk_nil)))
def zq1hf (m : Nat) : zq1gx := zq1h7 zqny m
theorem zq1hg {β : Type} (i : Nat) (k1) : zq1hf (β := β) (i + 1) k1 = zq1h6 zqny (zq1hf i k1) k1 := rfl
def zq1hh : zq1gx := zq1hf fuel
theorem zq1hi : OK zq1gy (zq1gz zq1hh) := zq1h8 zq1a3 zq13y zqny zq1heΓ fuel
def zq1hj (m : Nat) : zq1h2 := zq1ha zq13y m
theorem zq1hk {β : Type} (i : Nat) (k1) : zq1hj (β := β) (i + 1) k1 = zq1h9 zq13y (zq1hj i k1) k1 := rfl
def zq1hl : zq1h2 := zq1hj fuel
theorem zq1hm : OK zq1h3 (zq1h4 zq1hl) := zq1hb zq1a3 zq13y zqny zq1heΓ fuel
def zq1hn : zq1gt := zq1hc zq1a3 zq1hh zq1hl
theorem zq1ho : SpecOk Tryz.prog 148 (zq1gu zq1hn) := zq1hd zq1a3 zq13y zqny zq1heΓ zq1hh zq1hl zq1hi zq1hm
abbrev zq1hp := {β : Type} → t8y → (Bool → Option β) → Option β
def zq1hq (c : zq1hp) : Spec :=
 ⟨[b26y, (false, [.fn 72 []])], [], [b25y], [], fun x k => c x.1.1.1 (fun r0 => k (((r0, ()), ()), ()))⟩
section
variable (zq1pi : zq1a5)
@[reducible] def zq1hr : Ctx := cx [(85, .spec (zq1a6 zq1pi))]
def zq1hs : zq1hp := fun s k =>
 zq1pi s (fun (rRange : Int) =>
 let t : Bool := (decide ((0 : Int) ≤ rRange));
 k t)
theorem zq1ht (hΓ : GO (zq1hr zq1pi)) : SpecOk Tryz.prog 71 (zq1hq (zq1hs zq1pi)) :=
 pcS mixed (zq1hr zq1pi) tab_ok hΓ (pick1 []) [.tmp 4] Tryz.func71 (by kernel_rfl) (by kernel_rfl) (by kernel_rfl) (by kernel_rfl) CutsOk_nil (fun _ _ => by kernel_rfl)
end
theorem zq1huΓ : GO (zq1hr zq1ao) := (ΓOk_cons zq1ap ΓOk_nil)
def zq1hv : zq1hp := zq1hs zq1ao
theorem zq1hw : SpecOk Tryz.prog 71 (zq1hq zq1hv) := zq1ht zq1ao zq1huΓ
abbrev zq1hx := {β : Type} → t8y → (Int → Option β) → Option β
def zq1hy (c : zq1hx) : Spec :=
 ⟨[b26y], [], [b21y], [], fun x k => c x.1.1.1 (fun r0 => k (((r0, ()), ()), ()))⟩
section
variable (zq1pj : zq1hp)
@[reducible] def zq1hz : Ctx := cx [(71, .spec (zq1hq zq1pj))]
def zq1i0 : zq1hx := fun l k =>
 cond (decide ((256 : Int) < (List.length l : Int)))
 (k (5 : Int))
 (zq1pj l (fun (rRange : Bool) =>
 cond rRange
 (k (8 : Int))
 (k (0 : Int))))
theorem zq1i1 (hΓ : GO (zq1hz zq1pj)) : SpecOk Tryz.prog 43 (zq1hy (zq1i0 zq1pj)) :=
 pcS mixed (zq1hz zq1pj) tab_ok hΓ (pick1 []) [.tmp 2] Tryz.func43 (by kernel_rfl) (by kernel_rfl) (by kernel_rfl) (by kernel_rfl) CutsOk_nil (fun _ _ => by kernel_rfl)
end
theorem zq1i2Γ : GO (zq1hz zq1hv) := (ΓOk_cons zq1hw ΓOk_nil)
def zq1i3 : zq1hx := zq1i0 zq1hv
theorem zq1i4 : SpecOk Tryz.prog 43 (zq1hy zq1i3) := zq1i1 zq1hv zq1i2Γ
abbrev zq1i5 := {β : Type} → (List t5y) → (t8y → Option β) → Option β
def zq1i6 (c : zq1i5) : Spec :=
 ⟨[b39y], [], [b46y], [.row 231 (.prod (.int .i64) (.int .i64))], fun x k => c x.1.1.1 (fun r0 => k (((), ()), (r0, ())))⟩
abbrev zq1i7 (β : Type) := t8y → Option β
abbrev zq1i8 (β : Type) := (List t5y) → Int → t8y → Option β
abbrev zq1i9 := {β : Type} → zq1i7 β → zq1i8 β
noncomputable def zq1ia : Pc := ⟨98, 0, codeAt 58 (bodyOf Tryz.f146), ⟨0, [0, 3, 4], [b39y, b46y, b21y], [.row 231 (.prod (.int .i64) (.int .i64))]⟩, [(.exit 0, ⟨0, [3], [b46y], [.row 231 (.prod (.int .i64) (.int .i64))]⟩)]⟩
@[reducible] def zq1ib (p : zq1i9) : zq1ia.G := fun d ks => p (fun a0 => ks.1 (((), ()), (a0, ()))) d.1.1.1 d.1.2.2.1.1 d.2.1
abbrev zq1ic (β : Type) := (List t5y) → Int → t8y → Option β
abbrev zq1id (β : Type) := (List t5y) → Int → Int → t8y → Option β
abbrev zq1ie := {β : Type} → zq1ic β → zq1id β
noncomputable def zq1if : Pc := ⟨98, 0, codeAt 50 (loopBody zq1ia.c), ⟨0, [0, 3, 4, 5], [b39y, b46y, b21y, b21y], [.row 231 (.prod (.int .i64) (.int .i64))]⟩, [(.exit 2, ⟨0, [0, 3, 4], [b39y, b46y, b21y], [.row 231 (.prod (.int .i64) (.int .i64))]⟩)]⟩
@[reducible] def zq1ig (p : zq1ie) : zq1if.G := fun d ks => p (fun a0 a1 a2 => ks.1 (((a0, ()), (), (a1, ()), ()), (a2, ()))) d.1.1.1 d.1.2.2.1.1 d.1.2.2.2.1.1 d.2.1
abbrev zq1ih (β : Type) := (List t5y) → Int → Int → Int → t8y → t0y → Option β
abbrev zq1ii (β : Type) := (List t5y) → Int → Int → Int → t8y → t0y → Option β
abbrev zq1ij := {β : Type} → zq1ih β → zq1ii β
noncomputable def zq1ik : Pc := ⟨98, 0, codeAt 412 (loopBody zq1if.c), ⟨0, [0, 3, 4, 5, 8, 9], [b39y, b46y, b21y, b21y, b27y, b21y], [.row 231 (.prod (.int .i64) (.int .i64)), .cells 231 [.data (.prod (.int .i64) (.int .i64))]]⟩, [(.exit 4, ⟨0, [0, 3, 4, 5, 8, 9], [b39y, b46y, b21y, b21y, b27y, b21y], [.row 231 (.prod (.int .i64) (.int .i64)), .cells 231 [.data (.prod (.int .i64) (.int .i64))]]⟩)]⟩
@[reducible] def zq1il (p : zq1ij) : zq1ik.G := fun d ks => p (fun a0 a1 a2 a3 a4 a5 => ks.1 (((a0, ()), (), (a1, ()), (a2, ()), (), (a3, ()), ()), (a4, (a5, ()), ()))) d.1.1.1 d.1.2.2.1.1 d.1.2.2.2.1.1 d.1.2.2.2.2.2.1.1 d.2.1 d.2.2.1.1
section
variable (zq1pk : zq1gt)
@[reducible] def zq1im : Ctx := cx [(148, .spec (zq1gu zq1pk))]
def zq1in {β : Type} (rec : zq1ii β) (k1 : zq1ih β) : zq1ii β := fun l i_ y k_ out x =>
 cond (decide ((0 : Int) < k_))
 (cond (decide (0 ≤ (IntKind.i64.wrap (k_ - (1 : Int)))) && decide ((IntKind.i64.wrap (k_ - (1 : Int))) < (List.length out : Int)))
 (cond (decide (x.1 < ((List.getD out (Int.toNat (IntKind.i64.wrap (k_ - (1 : Int)))) ((0 : Int), (0 : Int))).1)))
 (let k_2 : Int := (IntKind.i64.wrap (k_ - (1 : Int)));
 rec l i_ y k_2 out x)
 (k1 l i_ y k_ out x))
 none)
 (k1 l i_ y k_ out x)
def zq1io {β : Type} (i : Nat) (k1 : zq1ih β) := lp6 (fun r => zq1in r k1) none i
theorem zq1ip (hΓ : GO (zq1im zq1pk)) (i : Nat) : OK zq1ik (zq1il (zq1io i)) :=
 pcL mixed (zq1im zq1pk) tab_ok hΓ (G := fun i => @fun β d ks => zq1il (zq1io i) d ks) (pick1 []) (by kernel_rfl) rfl (by kernel_rfl) CutsOk_nil (fun _ _ => rfl) (fun _ _ _ _ => by kernel_rfl) i
def zq1iq (p1 : zq1ij) {β : Type} (rec : zq1id β) (k1 : zq1ic β) : zq1id β := fun l i_ y out =>
 cond (decide (0 ≤ i_) && decide (i_ < (List.length l : Int)))
 (let e : t5y := List.getD l (Int.toNat i_) ((0 : Int), ((0 : Int), zqy));
 cond (decide (y ≤ e.2.1))
 (cond (decide (0 ≤ i_) && decide (i_ < (List.length l : Int)))
 (let e2 : t5y := List.getD l (Int.toNat i_) ((0 : Int), ((0 : Int), zqy));
 cond (decide (0 ≤ i_) && decide (i_ < (List.length l : Int)))
 (let e3 : t5y := List.getD l (Int.toNat i_) ((0 : Int), ((0 : Int), zqy));
 cond (decide (0 ≤ i_) && decide (i_ < (List.length l : Int)))
 (let e4 : t5y := List.getD l (Int.toNat i_) ((0 : Int), ((0 : Int), zqy));
 zq1pk y e2.2.2.1 e3.2.2.2.1 e4.2.2.2.2.1 (fun (rNth : Int) (rNth2 : Int) =>
 cond (decide (0 ≤ i_) && decide (i_ < (List.length l : Int)))
 (let e5 : t5y := List.getD l (Int.toNat i_) ((0 : Int), ((0 : Int), zqy));
 cond (decide (0 ≤ i_) && decide (i_ < (List.length l : Int)))
 (let e6 : t5y := List.getD l (Int.toNat i_) ((0 : Int), ((0 : Int), zqy));
 p1 (fun (l2 : List t5y) (i_2 : Int) (y2 : Int) (k_ : Int) (out2 : List t0y) (x : t0y) =>
 let l3 : List t0y := ([x] : List t0y);
 cond (decide ((List.length out2 + List.length l3) * 16 ≤ roomMax))
 (let l4 : List t0y := (out2 ++ l3);
 cond (decide (0 ≤ (IntKind.i64.wrap (k_ + (1 : Int)))) && (decide ((IntKind.i64.wrap (k_ + (1 : Int))) ≤ (List.length l4 : Int)) && decide ((List.length l4 : Int) ≤ (List.length l4 : Int))))
 (cond (decide (0 ≤ k_) && (decide (k_ ≤ (List.length l4 : Int)) && decide ((List.length l4 : Int) ≤ (List.length l4 : Int))))
 (let l5 : List t0y := (List.take (Int.toNat (IntKind.i64.wrap (k_ + (1 : Int)))) l4 ++ (List.take ((List.length l4) - (Int.toNat (IntKind.i64.wrap (k_ + (1 : Int))))) (List.drop (Int.toNat k_) (List.take (List.length l4) l4)) ++ List.drop ((Int.toNat (IntKind.i64.wrap (k_ + (1 : Int)))) + (Nat.min (List.length (List.drop (Int.toNat k_) (List.take (List.length l4) l4))) ((List.length l4) - (Int.toNat (IntKind.i64.wrap (k_ + (1 : Int))))))) l4));
 cond (decide (0 ≤ k_) && decide (k_ < (List.length l5 : Int)))
 (let l6 : List t0y := (List.set l5 (Int.toNat k_) x);
 let y3 : Int := (IntKind.i64.wrap (y2 + (1 : Int)));
 rec l2 i_2 y3 l6)
 none)
 none)
 none)
 none) l i_ y (List.length out : Int) out ((IntKind.i64.wrap ((IntKind.i64.wrap (rNth * (86400 : Int))) + e5.2.2.2.2.2.1)), e6.2.2.2.2.2.2))
 none)
 none))
 none)
 none)
 none)
 (k1 l i_ out))
 none
def zq1ir (p1 : zq1ij) {β : Type} (i : Nat) (k1 : zq1ic β) := lp4 (fun r => zq1iq zq1pk p1 r k1) none i
theorem zq1is (hΓ : GO (zq1im zq1pk)) (p1 : zq1ij) (hp1 : OK zq1ik (zq1il p1)) (i : Nat) : OK zq1if (zq1ig (zq1ir zq1pk p1 i)) :=
 pcL mixed (zq1im zq1pk) tab_ok hΓ (G := fun i => @fun β d ks => zq1ig (zq1ir zq1pk p1 i) d ks) (pick1 [(412, zq1ik.cut (zq1il p1))]) (by kernel_rfl) rfl (by kernel_rfl) (CutsOk_cons (by kernel_rfl) rfl hp1 CutsOk_nil) (fun _ _ => rfl) (fun _ _ _ _ => by kernel_rfl) i
def zq1it (p2 : zq1ie) {β : Type} (rec : zq1i8 β) (k1 : zq1i7 β) : zq1i8 β := fun l i_ out =>
 cond (decide (i_ < (List.length l : Int)))
 (cond (decide (0 ≤ i_) && decide (i_ < (List.length l : Int)))
 (let e : t5y := List.getD l (Int.toNat i_) ((0 : Int), ((0 : Int), zqy));
 p2 (fun (l2 : List t5y) (i_2 : Int) (out2 : List t0y) =>
 let i_3 : Int := (IntKind.i64.wrap (i_2 + (1 : Int)));
 rec l2 i_3 out2) l i_ e.1 out)
 none)
 (k1 out)
def zq1iu (p2 : zq1ie) {β : Type} (i : Nat) (k1 : zq1i7 β) := lp3 (fun r => zq1it p2 r k1) none i
theorem zq1iv (hΓ : GO (zq1im zq1pk)) (p2 : zq1ie) (hp2 : OK zq1if (zq1ig p2)) (i : Nat) : OK zq1ia (zq1ib (zq1iu p2 i)) :=
 pcL mixed (zq1im zq1pk) tab_ok hΓ (G := fun i => @fun β d ks => zq1ib (zq1iu p2 i) d ks) (pick1 [(50, zq1if.cut (zq1ig p2))]) (by kernel_rfl) rfl (by kernel_rfl) (CutsOk_cons (by kernel_rfl) rfl hp2 CutsOk_nil) (fun _ _ => rfl) (fun _ _ _ _ => by kernel_rfl) i
def zq1iw (p3 : zq1i9) : zq1i5 := fun l k =>
 p3 (fun (out : List t0y) =>
 k out) l (0 : Int) ([] : List t0y)
theorem zq1ix (hΓ : GO (zq1im zq1pk)) (p3 : zq1i9) (hp3 : OK zq1ia (zq1ib p3)) : SpecOk Tryz.prog 146 (zq1i6 (zq1iw p3)) :=
 pcS mixed (zq1im zq1pk) tab_ok hΓ (pick1 [(58, zq1ia.cut (zq1ib p3))]) [.tmp 2] Tryz.func146 (by kernel_rfl) (by kernel_rfl) (by kernel_rfl) (by kernel_rfl) (CutsOk_cons (by kernel_rfl) rfl hp3 CutsOk_nil) (fun _ _ => by kernel_rfl)
end
theorem zq1iyΓ : GO (zq1im zq1hn) := (ΓOk_cons zq1ho ΓOk_nil)
def zq1iz (m : Nat) : zq1ij := zq1io m
theorem zq1j0 {β : Type} (i : Nat) (k1) : zq1iz (β := β) (i + 1) k1 = zq1in (zq1iz i k1) k1 := rfl
def zq1j1 : zq1ij := zq1iz fuel
theorem zq1j2 : OK zq1ik (zq1il zq1j1) := zq1ip zq1hn zq1iyΓ fuel
def zq1j3 (m : Nat) : zq1ie := zq1ir zq1hn zq1j1 m
theorem zq1j4 {β : Type} (i : Nat) (k1) : zq1j3 (β := β) (i + 1) k1 = zq1iq zq1hn zq1j1 (zq1j3 i k1) k1 := rfl
def zq1j5 : zq1ie := zq1j3 fuel
theorem zq1j6 : OK zq1if (zq1ig zq1j5) := zq1is zq1hn zq1iyΓ zq1j1 zq1j2 fuel
def zq1j7 (m : Nat) : zq1i9 := zq1iu zq1j5 m
theorem zq1j8 {β : Type} (i : Nat) (k1) : zq1j7 (β := β) (i + 1) k1 = zq1it zq1j5 (zq1j7 i k1) k1 := rfl
def zq1j9 : zq1i9 := zq1j7 fuel
theorem zq1ja : OK zq1ia (zq1ib zq1j9) := zq1iv zq1hn zq1iyΓ zq1j5 zq1j6 fuel
def zq1jb : zq1i5 := zq1iw zq1j9
theorem zq1jc : SpecOk Tryz.prog 146 (zq1i6 zq1jb) := zq1ix zq1hn zq1iyΓ zq1j9 zq1ja
abbrev zq1jd := {β : Type} → t8y → (t0y → Int → Option β) → Option β
def zq1je (c : zq1jd) : Spec :=
 ⟨[b26y], [], [b35y, b21y], [], fun x k => c x.1.1.1 (fun r0 r1 => k (((r0, ()), (r1, ()), ()), ()))⟩
section
variable (zq1pl : zq1hx) (zq1pm : zq79)
@[reducible] def zq1jf : Ctx := cx [(43, .spec (zq1hy zq1pl)), (44, .spec (zq7a zq1pm))]
def zq1jg : zq1jd := fun l k =>
 zq1pl l (fun (rcheck : Int) =>
 cond (!decide (rcheck = (0 : Int)))
 (k ((0 : Int), (0 : Int)) rcheck)
 (zq1pm l (fun (rsum : t0y) =>
 k rsum (0 : Int))))
theorem zq1jh (hΓ : GO (zq1jf zq1pl zq1pm)) : SpecOk Tryz.prog 15 (zq1je (zq1jg zq1pl zq1pm)) :=
 pcS mixed (zq1jf zq1pl zq1pm) tab_ok hΓ (pick1 []) [.cell 2 54, .tmp 3] Tryz.func15 (by kernel_rfl) (by kernel_rfl) (by kernel_rfl) (by kernel_rfl) CutsOk_nil (fun _ _ => by kernel_rfl)
end
theorem zq1jiΓ : GO (zq1jf zq1i3 zq7r) := (ΓOk_cons zq1i4 (ΓOk_cons zq7s ΓOk_nil))
def zq1jj : zq1jd := zq1jg zq1i3 zq7r
theorem zq1jk : SpecOk Tryz.prog 15 (zq1je zq1jj) := zq1jh zq1i3 zq7r zq1jiΓ
abbrev zq1jl := {β : Type} → t8y → (t0y → t0y → Int → Option β) → Option β
def zq1jm (c : zq1jl) : Spec :=
 ⟨[b26y], [], [b35y, b35y, b21y], [], fun x k => c x.1.1.1 (fun r0 r1 r2 => k (((r0, ()), (r1, ()), (r2, ()), ()), ()))⟩
section
variable (zq1pn : zqvh) (zq1pl : zq1hx) (zq1pm : zq79)
@[reducible] def zq1jn : Ctx := cx [(45, .spec (zqvi zq1pn)), (43, .spec (zq1hy zq1pl)), (44, .spec (zq7a zq1pm))]
def zq1jo : zq1jl := fun l k =>
 cond (decide ((List.length l : Int) = (0 : Int)))
 (k ((0 : Int), (0 : Int)) ((0 : Int), (0 : Int)) (7 : Int))
 (zq1pl l (fun (rcheck : Int) =>
 cond (!decide (rcheck = (0 : Int)))
 (k ((0 : Int), (0 : Int)) ((0 : Int), (0 : Int)) rcheck)
 (zq1pm l (fun (rsum : t0y) =>
 zq1pn rsum.1 (List.length l : Int) (fun (rNew : t0y) (rNew2 : Int) =>
 zq1pn rsum.2 (List.length l : Int) (fun (rNew3 : t0y) (rNew4 : Int) =>
 k rNew rNew3 (0 : Int)))))))
theorem zq1jp (hΓ : GO (zq1jn zq1pn zq1pl zq1pm)) : SpecOk Tryz.prog 16 (zq1jm (zq1jo zq1pn zq1pl zq1pm)) :=
 pcS mixed (zq1jn zq1pn zq1pl zq1pm) tab_ok hΓ (pick1 []) [.cell 2 70, .cell 3 70, .tmp 4] Tryz.func16 (by kernel_rfl) (by kernel_rfl) (by kernel_rfl) (by kernel_rfl) CutsOk_nil (fun _ _ => by kernel_rfl)
end
theorem zq1jqΓ : GO (zq1jn zqvn zq1i3 zq7r) := (ΓOk_cons zqvo (ΓOk_cons zq1i4 (ΓOk_cons zq7s ΓOk_nil)))
def zq1jr : zq1jl := zq1jo zqvn zq1i3 zq7r
theorem zq1js : SpecOk Tryz.prog 16 (zq1jm zq1jr) := zq1jp zqvn zq1i3 zq7r zq1jqΓ
abbrev zq1jt := {β : Type} → t8y → Int → Int → (t0y → Int → Option β) → Option β
def zq1ju (c : zq1jt) : Spec :=
 ⟨[b26y, b21y, b21y], [], [b35y, b21y], [], fun x k => c x.1.1.1 x.1.2.1.1 x.1.2.2.1.1 (fun r0 r1 => k (((r0, ()), (r1, ()), ()), ()))⟩
section
variable (zq1pl : zq1hx) (zqy4 : zq7t) (zq1po : zqvp)
@[reducible] def zq1jv : Ctx := cx [(43, .spec (zq1hy zq1pl)), (46, .spec (zq7u zqy4)), (47, .spec (zqvq zq1po))]
def zq1jw : zq1jt := fun l num den k =>
 cond (decide ((List.length l : Int) = (0 : Int)))
 (k ((0 : Int), (0 : Int)) (7 : Int))
 (zq1pl l (fun (rcheck : Int) =>
 cond (!decide (rcheck = (0 : Int)))
 (k ((0 : Int), (0 : Int)) rcheck)
 (zqy4 den (1 : Int) (1000 : Int) (fun (rin : Bool) =>
 cond (!rin)
 (k ((0 : Int), (0 : Int)) (1 : Int))
 (zqy4 num (0 : Int) den (fun (rin2 : Bool) =>
 cond (!rin2)
 (k ((0 : Int), (0 : Int)) (1 : Int))
 (cond (!decide (den = 0))
 (let k_ : Int := (if (IntKind.i64.wrap (Int.tdiv (IntKind.i64.wrap ((IntKind.i64.wrap ((IntKind.i64.wrap (num * (List.length l : Int))) + den)) - (1 : Int))) den)) > (1 : Int) then (IntKind.i64.wrap (Int.tdiv (IntKind.i64.wrap ((IntKind.i64.wrap ((IntKind.i64.wrap (num * (List.length l : Int))) + den)) - (1 : Int))) den)) else (1 : Int));
 zq1po l (fun (rsort : (List Int × List Int)) =>
 cond (decide (0 ≤ (IntKind.i64.wrap (k_ - (1 : Int)))) && decide ((IntKind.i64.wrap (k_ - (1 : Int))) < (List.length rsort.1 : Int)))
 (let e : Int := List.getD rsort.1 (Int.toNat (IntKind.i64.wrap (k_ - (1 : Int)))) (0 : Int);
 cond (decide (0 ≤ (IntKind.i64.wrap (k_ - (1 : Int)))) && decide ((IntKind.i64.wrap (k_ - (1 : Int))) < (List.length rsort.2 : Int)))
 (let e2 : Int := List.getD rsort.2 (Int.toNat (IntKind.i64.wrap (k_ - (1 : Int)))) (0 : Int);
 k (e, e2) (0 : Int))
 none)
 none))
 none)))))))
theorem zq1jx (hΓ : GO (zq1jv zq1pl zqy4 zq1po)) : SpecOk Tryz.prog 17 (zq1ju (zq1jw zq1pl zqy4 zq1po)) :=
 pcS mixed (zq1jv zq1pl zqy4 zq1po) tab_ok hΓ (pick1 []) [.cell 6 54, .tmp 7] Tryz.func17 (by kernel_rfl) (by kernel_rfl) (by kernel_rfl) (by kernel_rfl) CutsOk_nil (fun _ _ => by kernel_rfl)
end
theorem zq1jyΓ : GO (zq1jv zq1i3 zq7z zqvv) := (ΓOk_cons zq1i4 (ΓOk_cons zq80 (ΓOk_cons zqvw ΓOk_nil)))
def zq1jz : zq1jt := zq1jw zq1i3 zq7z zqvv
theorem zq1k0 : SpecOk Tryz.prog 17 (zq1ju zq1jz) := zq1jx zq1i3 zq7z zqvv zq1jyΓ
abbrev zq1k1 := {β : Type} → zqe → (Int → t8y → Option β) → Option β
def zq1k2 (c : zq1k1) : Spec :=
 ⟨[b48y], [], [b46y, b21y], [.row 232 (.prod (.int .i64) (.int .i64))], fun x k => c x.1.1.1 (fun r0 r1 => k (((), (r0, ()), ()), (r1, ())))⟩
abbrev zq1k3 (β : Type) := Int → t8y → Option β
abbrev zq1k4 (β : Type) := Int → zqe → Option β
abbrev zq1k5 (β : Type) := Int → Int → zqe → Option β
abbrev zq1k6 := {β : Type} → zq1k3 β → zq1k4 β → zq1k5 β
noncomputable def zq1k7 : Pc := ⟨119, 0, codeAt 250 (bodyOf Tryz.f139), ⟨0, [1, 4, 5], [b23y, b21y, b21y], [b52y]⟩, [(.ret, ⟨0, [2, 3], [b46y, b21y], [.row 232 (.prod (.int .i64) (.int .i64))]⟩), (.exit 0, ⟨0, [1, 4], [b23y, b21y], [b52y]⟩)]⟩
@[reducible] def zq1k8 (p : zq1k6) : zq1k7.G := fun d ks => p (fun a0 a1 => ks.1 (((), (a0, ()), ()), (a1, ()))) (fun a0 a1 => ks.2.1 (((), (a0, ()), ()), ((a1, ()), ()))) d.1.2.1.1 d.1.2.2.1.1 d.2.1.1
abbrev zq1k9 (β : Type) := Int → t8y → Option β
abbrev zq1ka (β : Type) := t8y → Option β
abbrev zq1kb (β : Type) := Int → Int → t8y → t8y → Option β
abbrev zq1kc := {β : Type} → zq1k9 β → zq1ka β → zq1kb β
noncomputable def zq1kd : Pc := ⟨119, 0, codeAt 8186 (bodyOf Tryz.f139), ⟨0, [6, 7, 8, 9], [b46y, b49y, b21y, b21y], [.row 232 (.prod (.int .i64) (.int .i64)), .row 231 (.prod (.int .i64) (.int .i64))]⟩, [(.ret, ⟨0, [2, 3], [b46y, b21y], [.row 232 (.prod (.int .i64) (.int .i64))]⟩), (.exit 2, ⟨0, [6], [b46y], [.row 232 (.prod (.int .i64) (.int .i64))]⟩)]⟩
@[reducible] def zq1ke (p : zq1kc) : zq1kd.G := fun d ks => p (fun a0 a1 => ks.1 (((), (a0, ()), ()), (a1, ()))) (fun a0 => ks.2.1 (((), ()), (a0, ()))) d.1.2.2.1.1 d.1.2.2.2.1.1 d.2.1 d.2.2.1
section
variable (zqy7 : zqot) (zq1pp : zq1i5) (zq1pq : zqpt)
@[reducible] def zq1kf : Ctx := cx [(141, .spec (zqou zqy7)), (146, .spec (zq1i6 zq1pp)), (145, .spec (zqpu zq1pq))]
def zq1kg {β : Type} (rec : zq1k5 β) (k1 : zq1k3 β) (k2 : zq1k4 β) : zq1k5 β := fun n i_ z =>
 cond (decide (i_ < (List.length z.2.2 : Int)))
 (cond (decide (0 ≤ i_) && decide (i_ < (List.length z.2.2 : Int)))
 (let e : t5y := List.getD z.2.2 (Int.toNat i_) ((0 : Int), ((0 : Int), zqy));
 zq1pq e (fun (rright : Bool) =>
 cond (!rright)
 (k1 (1 : Int) ([] : List t0y))
 (cond (decide (0 ≤ i_) && decide (i_ < (List.length z.2.2 : Int)))
 (let e2 : t5y := List.getD z.2.2 (Int.toNat i_) ((0 : Int), ((0 : Int), zqy));
 cond (decide (0 ≤ i_) && decide (i_ < (List.length z.2.2 : Int)))
 (let e3 : t5y := List.getD z.2.2 (Int.toNat i_) ((0 : Int), ((0 : Int), zqy));
 let n2 : Int := (IntKind.i64.wrap (n + (IntKind.i64.wrap ((IntKind.i64.wrap (e2.2.1 - e3.1)) + (1 : Int)))));
 let i_2 : Int := (IntKind.i64.wrap (i_ + (1 : Int)));
 rec n2 i_2 z)
 none)
 none)))
 none)
 (k2 n z)
def zq1kh {β : Type} (i : Nat) (k1 : zq1k3 β) (k2 : zq1k4 β) := lp3 (fun r => zq1kg zq1pq r k1 k2) none i
theorem zq1ki (hΓ : GO (zq1kf zqy7 zq1pp zq1pq)) (i : Nat) : OK zq1k7 (zq1k8 (zq1kh zq1pq i)) :=
 pcL mixed (zq1kf zqy7 zq1pp zq1pq) tab_ok hΓ (G := fun i => @fun β d ks => zq1k8 (zq1kh zq1pq i) d ks) (pick1 []) (by kernel_rfl) rfl (by kernel_rfl) CutsOk_nil (fun _ _ => rfl) (fun _ _ _ _ => by kernel_rfl) i
def zq1kj {β : Type} (rec : zq1kb β) (k1 : zq1k9 β) (k2 : zq1ka β) : zq1kb β := fun now i_ out l =>
 cond (decide (i_ < (List.length l : Int)))
 (cond (decide (0 ≤ i_) && decide (i_ < (List.length l : Int)))
 (cond (decide (((List.getD l (Int.toNat i_) ((0 : Int), (0 : Int))).2) = now))
 (let i_2 : Int := (IntKind.i64.wrap (i_ + (1 : Int)));
 rec now i_2 out l)
 (cond (decide (0 ≤ i_) && decide (i_ < (List.length l : Int)))
 (cond (decide (0 ≤ i_) && decide (i_ < (List.length l : Int)))
 (zqy7 (IntKind.i64.wrap (((List.getD l (Int.toNat i_) ((0 : Int), (0 : Int))).2) - now)) (-86399 : Int) (86399 : Int) (fun (rin : Bool) =>
 cond (!rin)
 (k1 (6 : Int) ([] : List t0y))
 (zqy7 (IntKind.i64.wrap (((List.getD l (Int.toNat i_) ((0 : Int), (0 : Int))).1) - now)) (0 : Int) (8589934592 : Int) (fun (rin2 : Bool) =>
 cond (!rin2)
 (k1 (6 : Int) ([] : List t0y))
 (cond (decide ((0 : Int) < (List.length out : Int)))
 (cond (decide (0 ≤ (IntKind.i64.wrap ((List.length out : Int) - (1 : Int)))) && decide ((IntKind.i64.wrap ((List.length out : Int) - (1 : Int))) < (List.length out : Int)))
 (cond (decide ((IntKind.i64.wrap ((IntKind.i64.wrap (((List.getD l (Int.toNat i_) ((0 : Int), (0 : Int))).1) - now)) - ((List.getD out (Int.toNat (IntKind.i64.wrap ((List.length out : Int) - (1 : Int)))) ((0 : Int), (0 : Int))).1))) < (604800 : Int)))
 (k1 (6 : Int) ([] : List t0y))
 (let l2 : List t0y := ([((IntKind.i64.wrap (((List.getD l (Int.toNat i_) ((0 : Int), (0 : Int))).1) - now)), (List.getD l (Int.toNat i_) ((0 : Int), (0 : Int))).2)] : List t0y);
 cond (decide ((List.length out + List.length l2) * 16 ≤ roomMax))
 (let l3 : List t0y := (out ++ l2);
 let now2 : Int := (List.getD l (Int.toNat i_) ((0 : Int), (0 : Int))).2;
 let i_2 : Int := (IntKind.i64.wrap (i_ + (1 : Int)));
 rec now2 i_2 l3 l)
 none))
 none)
 (let l2 : List t0y := ([((IntKind.i64.wrap (((List.getD l (Int.toNat i_) ((0 : Int), (0 : Int))).1) - now)), (List.getD l (Int.toNat i_) ((0 : Int), (0 : Int))).2)] : List t0y);
 cond (decide ((List.length out + List.length l2) * 16 ≤ roomMax))
 (let l3 : List t0y := (out ++ l2);
 let now2 : Int := (List.getD l (Int.toNat i_) ((0 : Int), (0 : Int))).2;
 let i_2 : Int := (IntKind.i64.wrap (i_ + (1 : Int)));
 rec now2 i_2 l3 l)
 none))))))
 none)
 none))
 none)
 (k2 out)
def zq1kk {β : Type} (i : Nat) (k1 : zq1k9 β) (k2 : zq1ka β) := lp4 (fun r => zq1kj zqy7 r k1 k2) none i
theorem zq1kl (hΓ : GO (zq1kf zqy7 zq1pp zq1pq)) (i : Nat) : OK zq1kd (zq1ke (zq1kk zqy7 i)) :=
 pcL mixed (zq1kf zqy7 zq1pp zq1pq) tab_ok hΓ (G := fun i => @fun β d ks => zq1ke (zq1kk zqy7 i) d ks) (pick1 []) (by kernel_rfl) rfl (by kernel_rfl) CutsOk_nil (fun _ _ => rfl) (fun _ _ _ _ => by kernel_rfl) i
def zq1km (p1 : zq1k6) (p2 : zq1kc) : zq1k1 := fun z k =>
 zqy7 z.2.1 (-64800 : Int) (64800 : Int) (fun (rin : Bool) =>
 cond (!rin)
 (k (1 : Int) ([] : List t0y))
 (cond (decide ((16 : Int) < (List.length z.2.2 : Int)))
 (k (5 : Int) ([] : List t0y))
 (p1 (fun (t3 : Int) (t2 : List t0y) =>
 k t3 t2) (fun (n : Int) (z2 : zqe) =>
 cond (decide ((640 : Int) < n))
 (k (5 : Int) ([] : List t0y))
 (zq1pp z2.2.2 (fun (lroccurrences : List t0y) =>
 p2 (fun (t3 : Int) (t2 : List t0y) =>
 k t3 t2) (fun (out : List t0y) =>
 k (0 : Int) out) z2.2.1 (0 : Int) ([] : List t0y) lroccurrences))) (0 : Int) (0 : Int) z)))
theorem zq1kn (hΓ : GO (zq1kf zqy7 zq1pp zq1pq)) (p1 : zq1k6) (p2 : zq1kc) (hp1 : OK zq1k7 (zq1k8 p1)) (hp2 : OK zq1kd (zq1ke p2)) : SpecOk Tryz.prog 139 (zq1k2 (zq1km zqy7 zq1pp p1 p2)) :=
 pcS mixed (zq1kf zqy7 zq1pp zq1pq) tab_ok hΓ (pick1 [(250, zq1k7.cut (zq1k8 p1)), (8186, zq1kd.cut (zq1ke p2))]) [.tmp 2, .tmp 3] Tryz.func139 (by kernel_rfl) (by kernel_rfl) (by kernel_rfl) (by kernel_rfl) (CutsOk_cons (by kernel_rfl) rfl hp1 (CutsOk_cons (by kernel_rfl) rfl hp2 CutsOk_nil)) (fun _ _ => by kernel_rfl)
end
theorem zq1koΓ : GO (zq1kf zqoz zq1jb zqpz) := (ΓOk_cons zqp0 (ΓOk_cons zq1jc (ΓOk_cons zqq0 ΓOk_nil)))
def zq1kp (m : Nat) : zq1k6 := zq1kh zqpz m
theorem zq1kq {β : Type} (i : Nat) (k1 k2) : zq1kp (β := β) (i + 1) k1 k2 = zq1kg zqpz (zq1kp i k1 k2) k1 k2 := rfl
def zq1kr : zq1k6 := zq1kp fuel
theorem zq1ks : OK zq1k7 (zq1k8 zq1kr) := zq1ki zqoz zq1jb zqpz zq1koΓ fuel
def zq1kt (m : Nat) : zq1kc := zq1kk zqoz m
theorem zq1ku {β : Type} (i : Nat) (k1 k2) : zq1kt (β := β) (i + 1) k1 k2 = zq1kj zqoz (zq1kt i k1 k2) k1 k2 := rfl
def zq1kv : zq1kc := zq1kt fuel
theorem zq1kw : OK zq1kd (zq1ke zq1kv) := zq1kl zqoz zq1jb zqpz zq1koΓ fuel
def zq1kx : zq1k1 := zq1km zqoz zq1jb zq1kr zq1kv
theorem zq1ky : SpecOk Tryz.prog 139 (zq1k2 zq1kx) := zq1kn zqoz zq1jb zqpz zq1koΓ zq1kr zq1kv zq1ks zq1kw
abbrev zq1kz := {β : Type} → zqe → t0y → (Int → Int → Option β) → Option β
def zq1l0 (c : zq1kz) : Spec :=
 ⟨[b48y, b35y], [], [b21y, b21y], [], fun x k => c x.1.1.1 x.1.2.1.1 (fun r0 r1 => k (((r0, ()), (r1, ()), ()), ()))⟩
abbrev zq1l1 (β : Type) := Int → Int → Option β
abbrev zq1l2 (β : Type) := Unit → Option β
abbrev zq1l3 (β : Type) := Int → zqe → t0y → t8y → Option β
abbrev zq1l4 := {β : Type} → zq1l1 β → zq1l2 β → zq1l3 β
noncomputable def zq1l5 : Pc := ⟨76, 0, codeAt 1018 (bodyOf Tryz.f153), ⟨0, [2, 3, 6, 8], [b23y, b27y, b45y, b21y], [b52y, b44y, .row 232 (.prod (.int .i64) (.int .i64))]⟩, [(.ret, ⟨0, [4, 5], [b21y, b21y], []⟩), (.exit 0, ⟨0, [], [], []⟩)]⟩
@[reducible] def zq1l6 (p : zq1l4) : zq1l5.G := fun d ks => p (fun a0 a1 => ks.1 (((a0, ()), (a1, ()), ()), ())) (fun _ => ks.2.1 ((), ())) d.1.2.2.2.1.1 d.2.1.1 d.2.2.1.1 d.2.2.2.1
abbrev zq1l7 (β : Type) := Int → Int → Option β
abbrev zq1l8 (β : Type) := Int → zqe → t0y → t8y → Option β
abbrev zq1l9 (β : Type) := Int → Int → Int → Int → zqe → t0y → t8y → Option β
abbrev zq1la := {β : Type} → zq1l7 β → zq1l8 β → zq1l9 β
noncomputable def zq1lb : Pc := ⟨76, 0, codeAt 103 (loopBody zq1l5.c), ⟨0, [2, 3, 6, 8, 9, 10, 11], [b23y, b27y, b45y, b21y, b21y, b21y, b21y], [b52y, b44y, .row 232 (.prod (.int .i64) (.int .i64))]⟩, [(.ret, ⟨0, [4, 5], [b21y, b21y], []⟩), (.normal, ⟨0, [2, 3, 6, 8], [b23y, b27y, b45y, b21y], [b52y, b44y, .row 232 (.prod (.int .i64) (.int .i64))]⟩)]⟩
@[reducible] def zq1lc (p : zq1la) : zq1lb.G := fun d ks => p (fun a0 a1 => ks.1 (((a0, ()), (a1, ()), ()), ())) (fun a0 a1 a2 a3 => ks.2.1 (((), (), (), (a0, ()), ()), ((a1, ()), (a2, ()), a3, ()))) d.1.2.2.2.1.1 d.1.2.2.2.2.1.1 d.1.2.2.2.2.2.1.1 d.1.2.2.2.2.2.2.1.1 d.2.1.1 d.2.2.1.1 d.2.2.2.1
abbrev zq1ld (β : Type) := Int → Int → Option β
abbrev zq1le (β : Type) := Int → zqe → t0y → t8y → Option β
abbrev zq1lf (β : Type) := Int → Int → Int → Int → zqe → t0y → t8y → Option β
abbrev zq1lg := {β : Type} → zq1ld β → zq1le β → zq1lf β
noncomputable def zq1lh : Pc := ⟨76, 0, codeAt 51 (loopBody zq1l5.c), ⟨0, [2, 3, 6, 8, 9, 10, 11], [b23y, b27y, b45y, b21y, b21y, b21y, b21y], [b52y, b44y, .row 232 (.prod (.int .i64) (.int .i64))]⟩, [(.ret, ⟨0, [4, 5], [b21y, b21y], []⟩), (.normal, ⟨0, [2, 3, 6, 8], [b23y, b27y, b45y, b21y], [b52y, b44y, .row 232 (.prod (.int .i64) (.int .i64))]⟩)]⟩
@[reducible] def zq1li (p : zq1lg) : zq1lh.G := fun d ks => p (fun a0 a1 => ks.1 (((a0, ()), (a1, ()), ()), ())) (fun a0 a1 a2 a3 => ks.2.1 (((), (), (), (a0, ()), ()), ((a1, ()), (a2, ()), a3, ()))) d.1.2.2.2.1.1 d.1.2.2.2.2.1.1 d.1.2.2.2.2.2.1.1 d.1.2.2.2.2.2.2.1.1 d.2.1.1 d.2.2.1.1 d.2.2.2.1
section
variable (zq1pr : zq1k1) (zqy7 : zqot) (zq1ps : zqq9)
@[reducible] def zq1lj : Ctx := cx [(139, .spec (zq1k2 zq1pr)), (141, .spec (zqou zqy7)), (157, .spec (zqqa zq1ps))]
def zq1lk {β : Type} (k1 : zq1l7 β) (k2 : zq1l8 β) : zq1l9 β := fun i_ n from_ to_ z x l =>
 let t : Int := (if (IntKind.i64.wrap ((IntKind.i64.wrap ((IntKind.i64.wrap (x.1 * (86400 : Int))) + x.2)) - n)) > from_ then (IntKind.i64.wrap ((IntKind.i64.wrap ((IntKind.i64.wrap (x.1 * (86400 : Int))) + x.2)) - n)) else from_);
 cond (decide (t < to_))
 (k1 t (0 : Int))
 (k2 i_ z x l)
def zq1ll {β : Type} (k1 : zq1l7 β) (k2 : zq1l8 β) : zq1l9 β := zq1lk k1 k2
theorem zq1lm (hΓ : GO (zq1lj zq1pr zqy7 zq1ps)) : OK zq1lb (zq1lc (zq1ll)) :=
 pcE mixed (zq1lj zq1pr zqy7 zq1ps) tab_ok hΓ 103 (pick1 []) (by kernel_rfl) CutsOk_nil (fun _ _ => by kernel_rfl)
def zq1ln (p1 : zq1la) {β : Type} (k1 : zq1ld β) (k2 : zq1le β) : zq1lf β := fun i_ n from_ to_ z x l =>
 cond (decide ((IntKind.i64.wrap (i_ + (1 : Int))) < (List.length l : Int)))
 (cond (decide (0 ≤ (IntKind.i64.wrap (i_ + (1 : Int)))) && decide ((IntKind.i64.wrap (i_ + (1 : Int))) < (List.length l : Int)))
 (let to_2 : Int := (List.getD l (Int.toNat (IntKind.i64.wrap (i_ + (1 : Int)))) ((0 : Int), (0 : Int))).1;
 p1 (fun (t4 : Int) (t5 : Int) =>
 k1 t4 t5) (fun (i_2 : Int) (z2 : zqe) (x2 : t0y) (l2 : List t0y) =>
 k2 i_2 z2 x2 l2) i_ n from_ to_2 z x l)
 none)
 (p1 (fun (t4 : Int) (t5 : Int) =>
 k1 t4 t5) (fun (i_2 : Int) (z2 : zqe) (x2 : t0y) (l2 : List t0y) =>
 k2 i_2 z2 x2 l2) i_ n from_ to_ z x l)
def zq1lo (p1 : zq1la) {β : Type} (k1 : zq1ld β) (k2 : zq1le β) : zq1lf β := zq1ln p1 k1 k2
theorem zq1lp (hΓ : GO (zq1lj zq1pr zqy7 zq1ps)) (p1 : zq1la) (hp1 : OK zq1lb (zq1lc p1)) : OK zq1lh (zq1li (zq1lo p1)) :=
 pcE mixed (zq1lj zq1pr zqy7 zq1ps) tab_ok hΓ 51 (pick1 [(103, zq1lb.cut (zq1lc p1))]) (by kernel_rfl) (CutsOk_cons (by kernel_rfl) rfl hp1 CutsOk_nil) (fun _ _ => by kernel_rfl)
def zq1lq (p2 : zq1lg) {β : Type} (rec : zq1l3 β) (k1 : zq1l1 β) (k2 : zq1l2 β) : zq1l3 β := fun i_ z x l =>
 cond (decide (i_ < (List.length l : Int)))
 (cond (decide ((0 : Int) ≤ i_))
 (cond (decide (0 ≤ i_) && decide (i_ < (List.length l : Int)))
 (cond (decide (0 ≤ i_) && decide (i_ < (List.length l : Int)))
 (let n : Int := (List.getD l (Int.toNat i_) ((0 : Int), (0 : Int))).2;
 let from_ : Int := (List.getD l (Int.toNat i_) ((0 : Int), (0 : Int))).1;
 p2 (fun (t4 : Int) (t5 : Int) =>
 k1 t4 t5) (fun (i_2 : Int) (z2 : zqe) (x2 : t0y) (l2 : List t0y) =>
 let i_3 : Int := (IntKind.i64.wrap (i_2 + (1 : Int)));
 rec i_3 z2 x2 l2) i_ n from_ (8589934593 : Int) z x l)
 none)
 none)
 (p2 (fun (t4 : Int) (t5 : Int) =>
 k1 t4 t5) (fun (i_2 : Int) (z2 : zqe) (x2 : t0y) (l2 : List t0y) =>
 let i_3 : Int := (IntKind.i64.wrap (i_2 + (1 : Int)));
 rec i_3 z2 x2 l2) i_ z.2.1 (0 : Int) (8589934593 : Int) z x l))
 (k2 ())
def zq1lr (p2 : zq1lg) {β : Type} (i : Nat) (k1 : zq1l1 β) (k2 : zq1l2 β) := lp4 (fun r => zq1lq p2 r k1 k2) none i
theorem zq1ls (hΓ : GO (zq1lj zq1pr zqy7 zq1ps)) (p2 : zq1lg) (hp2 : OK zq1lh (zq1li p2)) (i : Nat) : OK zq1l5 (zq1l6 (zq1lr p2 i)) :=
 pcL mixed (zq1lj zq1pr zqy7 zq1ps) tab_ok hΓ (G := fun i => @fun β d ks => zq1l6 (zq1lr p2 i) d ks) (pick1 [(51, zq1lh.cut (zq1li p2))]) (by kernel_rfl) rfl (by kernel_rfl) (CutsOk_cons (by kernel_rfl) rfl hp2 CutsOk_nil) (fun _ _ => rfl) (fun _ _ _ _ => by kernel_rfl) i
def zq1lt (p3 : zq1l4) : zq1kz := fun z x k =>
 zq1pr z (fun (rTransitions : Int) (lrTransitions : List t0y) =>
 cond (!decide (rTransitions = (0 : Int)))
 (k (0 : Int) (8 : Int))
 (zqy7 x.2 (0 : Int) (86399 : Int) (fun (rin : Bool) =>
 cond (!rin)
 (k (0 : Int) (1 : Int))
 (cond (decide (x.1 < (-2 : Int)))
 (k (0 : Int) (0 : Int))
 (zq1ps x.1 (fun (rsmall : Bool) =>
 cond (!rsmall)
 (k (0 : Int) (10 : Int))
 (p3 (fun (t4 : Int) (t5 : Int) =>
 k t4 t5) (fun (_ : Unit) =>
 k (0 : Int) (10 : Int)) (-1 : Int) z x lrTransitions)))))))
theorem zq1lu (hΓ : GO (zq1lj zq1pr zqy7 zq1ps)) (p3 : zq1l4) (hp3 : OK zq1l5 (zq1l6 p3)) : SpecOk Tryz.prog 153 (zq1l0 (zq1lt zq1pr zqy7 zq1ps p3)) :=
 pcS mixed (zq1lj zq1pr zqy7 zq1ps) tab_ok hΓ (pick1 [(1018, zq1l5.cut (zq1l6 p3))]) [.tmp 4, .tmp 5] Tryz.func153 (by kernel_rfl) (by kernel_rfl) (by kernel_rfl) (by kernel_rfl) (CutsOk_cons (by kernel_rfl) rfl hp3 CutsOk_nil) (fun _ _ => by kernel_rfl)
end
theorem zq1lvΓ : GO (zq1lj zq1kx zqoz zqqf) := (ΓOk_cons zq1ky (ΓOk_cons zqp0 (ΓOk_cons zqqg ΓOk_nil)))
def zq1lw : zq1la := zq1ll
theorem zq1lx : OK zq1lb (zq1lc zq1lw) := zq1lm zq1kx zqoz zqqf zq1lvΓ
def zq1ly : zq1lg := zq1lo zq1lw
theorem zq1lz : OK zq1lh (zq1li zq1ly) := zq1lp zq1kx zqoz zqqf zq1lvΓ zq1lw zq1lx
def zq1m0 (m : Nat) : zq1l4 := zq1lr zq1ly m
theorem zq1m1 {β : Type} (i : Nat) (k1 k2) : zq1m0 (β := β) (i + 1) k1 k2 = zq1lq zq1ly (zq1m0 i k1 k2) k1 k2 := rfl
def zq1m2 : zq1l4 := zq1m0 fuel
theorem zq1m3 : OK zq1l5 (zq1l6 zq1m2) := zq1ls zq1kx zqoz zqqf zq1lvΓ zq1ly zq1lz fuel
def zq1m4 : zq1kz := zq1lt zq1kx zqoz zqqf zq1m2
theorem zq1m5 : SpecOk Tryz.prog 153 (zq1l0 zq1m4) := zq1lu zq1kx zqoz zqqf zq1lvΓ zq1m2 zq1m3
abbrev zq1m6 := {β : Type} → zqe → zq8 → Int → (Int → Bool → Option β) → Option β
def zq1m7 (c : zq1m6) : Spec :=
 ⟨[b48y, b61y, b21y], [], [b21y, b25y], [], fun x k => c x.1.1.1 x.1.2.1.1 x.1.2.2.1.1 (fun r0 r1 => k (((r0, ()), (r1, ()), ()), ()))⟩
abbrev zq1m8 (β : Type) := Int → Bool → Option β
abbrev zq1m9 (β : Type) := Int → zqe → zq8 → Option β
abbrev zq1ma := {β : Type} → zq1m8 β → zq1m9 β
noncomputable def zq1mb : Pc := ⟨66, 0, codeAt 31 (bodyOf Tryz.f154), ⟨0, [3, 4, 11], [b23y, b27y, b21y], [b52y, b42y]⟩, [(.ret, ⟨0, [6, 7], [b21y, b25y], []⟩)]⟩
@[reducible] def zq1mc (p : zq1ma) : zq1mb.G := fun d ks => p (fun a0 a1 => ks.1 (((a0, ()), (a1, ()), ()), ())) d.1.2.2.1.1 d.2.1.1 d.2.2.1.1
section
variable (zq1pt : zq1kz)
@[reducible] def zq1md : Ctx := cx [(153, .spec (zq1l0 zq1pt))]
def zq1me {β : Type} (k1 : zq1m8 β) : zq1m9 β := fun days z l =>
 zq1pt z ((IntKind.i64.wrap (l.2.2.1.1 + days)), l.2.2.1.2) (fun (rFirst : Int) (rFirst2 : Int) =>
 let t : Bool := (decide (rFirst2 = (0 : Int)));
 k1 rFirst t)
def zq1mf {β : Type} (k1 : zq1m8 β) : zq1m9 β := zq1me zq1pt k1
theorem zq1mg (hΓ : GO (zq1md zq1pt)) : OK zq1mb (zq1mc (zq1mf zq1pt)) :=
 pcE mixed (zq1md zq1pt) tab_ok hΓ 31 (pick1 []) (by kernel_rfl) CutsOk_nil (fun _ _ => by kernel_rfl)
def zq1mh (p1 : zq1ma) : zq1m6 := fun z l k_ k =>
 cond (decide (l.2.2.2.1 = (0 : Int)))
 (zq1pt z l.2.2.1 (fun (rFirst : Int) (rFirst2 : Int) =>
 let n : Int := (IntKind.i64.wrap ((IntKind.i64.wrap (k_ * l.2.2.2.2.1)) * (3600 : Int)));
 cond (decide (rFirst2 = (0 : Int)))
 (let t : Int := (IntKind.i64.wrap (rFirst + n));
 let t2 : Bool := (decide ((IntKind.i64.wrap (rFirst + n)) ≤ (8589934592 : Int)));
 k t t2)
 (let t : Int := (IntKind.i64.wrap (rFirst + n));
 k t false)))
 (let days : Int := (IntKind.i64.wrap (k_ * l.2.2.2.2.1));
 cond (decide (l.2.2.2.1 = (2 : Int)))
 (let days2 : Int := (IntKind.i64.wrap (days * (7 : Int)));
 p1 (fun (t6 : Int) (t7 : Bool) =>
 k t6 t7) days2 z l)
 (p1 (fun (t6 : Int) (t7 : Bool) =>
 k t6 t7) days z l))
theorem zq1mi (hΓ : GO (zq1md zq1pt)) (p1 : zq1ma) (hp1 : OK zq1mb (zq1mc p1)) : SpecOk Tryz.prog 154 (zq1m7 (zq1mh zq1pt p1)) :=
 pcS mixed (zq1md zq1pt) tab_ok hΓ (pick1 [(31, zq1mb.cut (zq1mc p1))]) [.tmp 6, .tmp 7] Tryz.func154 (by kernel_rfl) (by kernel_rfl) (by kernel_rfl) (by kernel_rfl) (CutsOk_cons (by kernel_rfl) rfl hp1 CutsOk_nil) (fun _ _ => by kernel_rfl)
end
theorem zq1mjΓ : GO (zq1md zq1m4) := (ΓOk_cons zq1m5 ΓOk_nil)
def zq1mk : zq1ma := zq1mf zq1m4
theorem zq1ml : OK zq1mb (zq1mc zq1mk) := zq1mg zq1m4 zq1mjΓ
def zq1mm : zq1m6 := zq1mh zq1m4 zq1mk
theorem zq1mn : SpecOk Tryz.prog 154 (zq1m7 zq1mm) := zq1mi zq1m4 zq1mjΓ zq1mk zq1ml
abbrev zq1mo := {β : Type} → (Bool → Option β) → Option β
def zq1mp (c : zq1mo) : Spec :=
 ⟨[], [], [b25y], [], fun x k => c  (fun r0 => k (((r0, ()), ()), ()))⟩
section
variable (zq1pu : zq1jl) (zq1pv : zq1jt) (zq1pw : zq1jd)
@[reducible] def zq1mq : Ctx := cx [(16, .spec (zq1jm zq1pu)), (17, .spec (zq1ju zq1pv)), (15, .spec (zq1je zq1pw))]
def zq1mr : zq1mo := fun k =>
 let l : List t0y := ([((1 : Int), (3 : Int)), ((2 : Int), (2 : Int))] : List t0y);
 zq1pw l (fun (rSum : t0y) (rSum2 : Int) =>
 zq1pu l (fun (rMean : t0y) (rMean2 : t0y) (rMean3 : Int) =>
 zq1pv l (1 : Int) (2 : Int) (fun (rRank : t0y) (rRank2 : Int) =>
 cond (decide (rSum2 = (0 : Int)))
 (cond (decide (rSum.1 = (3 : Int)) && (decide (rSum.2 = (5 : Int)) && true))
 (cond (decide (rMean3 = (0 : Int)))
 (cond (decide (rMean.1 = (3 : Int)) && (decide (rMean.2 = (2 : Int)) && true))
 (cond (decide (rMean2.1 = (5 : Int)) && (decide (rMean2.2 = (2 : Int)) && true))
 (cond (decide (rRank2 = (0 : Int)))
 (let t : Bool := (decide (rRank.1 = (1 : Int)) && (decide (rRank.2 = (2 : Int)) && true));
 k t)
 (k false))
 (k false))
 (k false))
 (k false))
 (k false))
 (k false))))
theorem zq1ms (hΓ : GO (zq1mq zq1pu zq1pv zq1pw)) : SpecOk Tryz.prog 5 (zq1mp (zq1mr zq1pu zq1pv zq1pw)) :=
 pcS mixed (zq1mq zq1pu zq1pv zq1pw) tab_ok hΓ (pick1 []) [.tmp 0] Tryz.func5 (by kernel_rfl) (by kernel_rfl) (by kernel_rfl) (by kernel_rfl) CutsOk_nil (fun _ _ => by kernel_rfl)
end
theorem zq1mtΓ : GO (zq1mq zq1jr zq1jz zq1jj) := (ΓOk_cons zq1js (ΓOk_cons zq1k0 (ΓOk_cons zq1jk ΓOk_nil)))
def zq1mu : zq1mo := zq1mr zq1jr zq1jz zq1jj
theorem zq1mv : SpecOk Tryz.prog 5 (zq1mp zq1mu) := zq1ms zq1jr zq1jz zq1jj zq1mtΓ
abbrev zq1mw := {β : Type} → zqe → (Int → Option β) → Option β
def zq1mx (c : zq1mw) : Spec :=
 ⟨[b48y], [], [b21y], [], fun x k => c x.1.1.1 (fun r0 => k (((r0, ()), ()), ()))⟩
section
variable (zq1pr : zq1k1)
@[reducible] def zq1my : Ctx := cx [(139, .spec (zq1k2 zq1pr))]
def zq1mz : zq1mw := fun z k =>
 zq1pr z (fun (rTransitions : Int) (lrTransitions : List t0y) =>
 k rTransitions)
theorem zq1n0 (hΓ : GO (zq1my zq1pr)) : SpecOk Tryz.prog 126 (zq1mx (zq1mz zq1pr)) :=
 pcS mixed (zq1my zq1pr) tab_ok hΓ (pick1 []) [.tmp 2] Tryz.func126 (by kernel_rfl) (by kernel_rfl) (by kernel_rfl) (by kernel_rfl) CutsOk_nil (fun _ _ => by kernel_rfl)
end
theorem zq1n1Γ : GO (zq1my zq1kx) := (ΓOk_cons zq1ky ΓOk_nil)
def zq1n2 : zq1mw := zq1mz zq1kx
theorem zq1n3 : SpecOk Tryz.prog 126 (zq1mx zq1n2) := zq1n0 zq1kx zq1n1Γ
abbrev zq1n4 := {β : Type} → zqe → Int → (Int → Int → Option β) → Option β
def zq1n5 (c : zq1n4) : Spec :=
 ⟨[b48y, b21y], [], [b21y, b21y], [], fun x k => c x.1.1.1 x.1.2.1.1 (fun r0 r1 => k (((r0, ()), (r1, ()), ()), ()))⟩
section
variable (zq1pr : zq1k1) (zqy7 : zqot) (zq1px : zqp1)
@[reducible] def zq1n6 : Ctx := cx [(139, .spec (zq1k2 zq1pr)), (141, .spec (zqou zqy7)), (142, .spec (zqp2 zq1px))]
def zq1n7 : zq1n4 := fun z t k =>
 zq1pr z (fun (rTransitions : Int) (lrTransitions : List t0y) =>
 cond (!decide (rTransitions = (0 : Int)))
 (k (0 : Int) (8 : Int))
 (zqy7 t (0 : Int) (8589934592 : Int) (fun (rin : Bool) =>
 cond (!rin)
 (k (0 : Int) (1 : Int))
 (zq1px z lrTransitions t (fun (roffset : Int) =>
 k roffset (0 : Int))))))
theorem zq1n8 (hΓ : GO (zq1n6 zq1pr zqy7 zq1px)) : SpecOk Tryz.prog 133 (zq1n5 (zq1n7 zq1pr zqy7 zq1px)) :=
 pcS mixed (zq1n6 zq1pr zqy7 zq1px) tab_ok hΓ (pick1 []) [.tmp 4, .tmp 5] Tryz.func133 (by kernel_rfl) (by kernel_rfl) (by kernel_rfl) (by kernel_rfl) CutsOk_nil (fun _ _ => by kernel_rfl)
end
theorem zq1n9Γ : GO (zq1n6 zq1kx zqoz zqpj) := (ΓOk_cons zq1ky (ΓOk_cons zqp0 (ΓOk_cons zqpk ΓOk_nil)))
def zq1na : zq1n4 := zq1n7 zq1kx zqoz zqpj
theorem zq1nb : SpecOk Tryz.prog 133 (zq1n5 zq1na) := zq1n8 zq1kx zqoz zqpj zq1n9Γ
abbrev zq1nc := {β : Type} → zqe → zq8 → (Int → Option β) → Option β
def zq1nd (c : zq1nc) : Spec :=
 ⟨[b48y, b61y], [], [b21y], [], fun x k => c x.1.1.1 x.1.2.1.1 (fun r0 => k (((r0, ()), ()), ()))⟩
section
variable (zq1py : zq1mw)
@[reducible] def zq1ne : Ctx := cx [(126, .spec (zq1mx zq1py))]
def zq1nf : zq1nc := fun z l k =>
 zq1py z (fun (rCheck : Int) =>
 cond (!decide (rCheck = (0 : Int)))
 (k (8 : Int))
 (cond (decide (l.2.2.1.1 < (1 : Int)))
 (k (8 : Int))
 (cond (decide ((100000 : Int) < l.2.2.1.1))
 (k (8 : Int))
 (cond (decide (l.2.2.1.2 < (0 : Int)))
 (k (8 : Int))
 (cond (decide ((86400 : Int) ≤ l.2.2.1.2))
 (k (8 : Int))
 (cond (decide (l.2.2.2.1 < (0 : Int)))
 (k (8 : Int))
 (cond (decide ((2 : Int) < l.2.2.2.1))
 (k (8 : Int))
 (cond (decide (l.2.2.2.2.1 < (1 : Int)))
 (k (8 : Int))
 (cond (decide ((400 : Int) < l.2.2.2.2.1))
 (k (8 : Int))
 (cond (decide ((List.length l.2.2.2.2.2.1 : Int) = (0 : Int)))
 (k (8 : Int))
 (k (0 : Int))))))))))))
theorem zq1ng (hΓ : GO (zq1ne zq1py)) : SpecOk Tryz.prog 149 (zq1nd (zq1nf zq1py)) :=
 pcS mixed (zq1ne zq1py) tab_ok hΓ (pick1 []) [.tmp 4] Tryz.func149 (by kernel_rfl) (by kernel_rfl) (by kernel_rfl) (by kernel_rfl) CutsOk_nil (fun _ _ => by kernel_rfl)
end
theorem zq1nhΓ : GO (zq1ne zq1n2) := (ΓOk_cons zq1n3 ΓOk_nil)
def zq1ni : zq1nc := zq1nf zq1n2
theorem zq1nj : SpecOk Tryz.prog 149 (zq1nd zq1ni) := zq1ng zq1n2 zq1nhΓ
abbrev zq1nk := {β : Type} → zqi → (Int → Option β) → Option β
def zq1nl (c : zq1nk) : Spec :=
 ⟨[b36y], [], [b21y], [], fun x k => c x.1.1.1 (fun r0 => k (((r0, ()), ()), ()))⟩
abbrev zq1nm (β : Type) := Int → Option β
abbrev zq1nn (β : Type) := Unit → Option β
abbrev zq1no (β : Type) := Int → zqi → t20y → Option β
abbrev zq1np := {β : Type} → zq1nm β → zq1nn β → zq1no β
noncomputable def zq1nq : Pc := ⟨44, 0, codeAt 58 (bodyOf Tryz.f116), ⟨0, [1, 3, 4], [b23y, b49y, b21y], [b29y, .row 9 .str]⟩, [(.ret, ⟨0, [2], [b21y], []⟩), (.exit 0, ⟨0, [], [], []⟩)]⟩
@[reducible] def zq1nr (p : zq1np) : zq1nq.G := fun d ks => p (fun a0 => ks.1 (((a0, ()), ()), ())) (fun _ => ks.2.1 ((), ())) d.1.2.2.1.1 d.2.1.1 d.2.2.1
section
variable (zq1py : zq1mw) (zq1pz : zqmk) (zq1pe : zq190)
@[reducible] def zq1ns : Ctx := cx [(126, .spec (zq1mx zq1py)), (127, .spec (zqml zq1pz)), (125, .spec (zq191 zq1pe))]
def zq1nt {β : Type} (rec : zq1no β) (k1 : zq1nm β) (k2 : zq1nn β) : zq1no β := fun i_ c l =>
 cond (decide (i_ < (List.length c.1 : Int)))
 (cond (decide (0 ≤ i_) && decide (i_ < (List.length c.1 : Int)))
 (let e : zqe := List.getD c.1 (Int.toNat i_) (([] : List UInt8), ((0 : Int), ([] : List t5y)));
 let l2 : List t4y := ([e.1] : List t4y);
 cond (decide ((List.length l + List.length l2) * 16 ≤ roomMax))
 (let l3 : List t4y := (l ++ l2);
 zq1pe l3 i_ (fun (rname : Int) =>
 cond (!decide (rname = (0 : Int)))
 (k1 rname)
 (cond (decide (0 ≤ i_) && decide (i_ < (List.length c.1 : Int)))
 (let e2 : zqe := List.getD c.1 (Int.toNat i_) (([] : List UInt8), ((0 : Int), ([] : List t5y)));
 zq1py e2 (fun (rCheck : Int) =>
 cond (!decide (rCheck = (0 : Int)))
 (k1 (8 : Int))
 (cond (decide (0 ≤ i_) && decide (i_ < (List.length c.1 : Int)))
 (let e3 : zqe := List.getD c.1 (Int.toNat i_) (([] : List UInt8), ((0 : Int), ([] : List t5y)));
 zq1pz e3 (fun (rminutes : Bool) =>
 cond (!rminutes)
 (k1 (8 : Int))
 (let i_2 : Int := (IntKind.i64.wrap (i_ + (1 : Int)));
 rec i_2 c l3)))
 none)))
 none)))
 none)
 none)
 (k2 ())
def zq1nu {β : Type} (i : Nat) (k1 : zq1nm β) (k2 : zq1nn β) := lp3 (fun r => zq1nt zq1py zq1pz zq1pe r k1 k2) none i
theorem zq1nv (hΓ : GO (zq1ns zq1py zq1pz zq1pe)) (i : Nat) : OK zq1nq (zq1nr (zq1nu zq1py zq1pz zq1pe i)) :=
 pcL mixed (zq1ns zq1py zq1pz zq1pe) tab_ok hΓ (G := fun i => @fun β d ks => zq1nr (zq1nu zq1py zq1pz zq1pe i) d ks) (pick1 []) (by kernel_rfl) rfl (by kernel_rfl) CutsOk_nil (fun _ _ => rfl) (fun _ _ _ _ => by kernel_rfl) i
def zq1nw (p1 : zq1np) : zq1nk := fun c k =>
 p1 (fun (t2 : Int) =>
 k t2) (fun (_ : Unit) =>
 k (0 : Int)) (0 : Int) c ([] : List t4y)
theorem zq1nx (hΓ : GO (zq1ns zq1py zq1pz zq1pe)) (p1 : zq1np) (hp1 : OK zq1nq (zq1nr p1)) : SpecOk Tryz.prog 116 (zq1nl (zq1nw p1)) :=
 pcS mixed (zq1ns zq1py zq1pz zq1pe) tab_ok hΓ (pick1 [(58, zq1nq.cut (zq1nr p1))]) [.tmp 2] Tryz.func116 (by kernel_rfl) (by kernel_rfl) (by kernel_rfl) (by kernel_rfl) (CutsOk_cons (by kernel_rfl) rfl hp1 CutsOk_nil) (fun _ _ => by kernel_rfl)
end
theorem zq1nyΓ : GO (zq1ns zq1n2 zqn2 zq19j) := (ΓOk_cons zq1n3 (ΓOk_cons zqn3 (ΓOk_cons zq19k ΓOk_nil)))
def zq1nz (m : Nat) : zq1np := zq1nu zq1n2 zqn2 zq19j m
theorem zq1o0 {β : Type} (i : Nat) (k1 k2) : zq1nz (β := β) (i + 1) k1 k2 = zq1nt zq1n2 zqn2 zq19j (zq1nz i k1 k2) k1 k2 := rfl
def zq1o1 : zq1np := zq1nz fuel
theorem zq1o2 : OK zq1nq (zq1nr zq1o1) := zq1nv zq1n2 zqn2 zq19j zq1nyΓ fuel
def zq1o3 : zq1nk := zq1nw zq1o1
theorem zq1o4 : SpecOk Tryz.prog 116 (zq1nl zq1o3) := zq1nx zq1n2 zqn2 zq19j zq1nyΓ zq1o1 zq1o2
abbrev zq1o5 := {β : Type} → zqe → Int → (t0y → Int → Option β) → Option β
def zq1o6 (c : zq1o5) : Spec :=
 ⟨[b48y, b21y], [], [b35y, b21y], [], fun x k => c x.1.1.1 x.1.2.1.1 (fun r0 r1 => k (((r0, ()), (r1, ()), ()), ()))⟩
section
variable (zq1q0 : zq1n4) (zq1q1 : zqnk)
@[reducible] def zq1o7 : Ctx := cx [(133, .spec (zq1n5 zq1q0)), (134, .spec (zqnl zq1q1))]
def zq1o8 : zq1o5 := fun z t k =>
 zq1q0 z t (fun (rOffsetAt : Int) (rOffsetAt2 : Int) =>
 cond (!decide (rOffsetAt2 = (0 : Int)))
 (k ((0 : Int), (0 : Int)) rOffsetAt2)
 (zq1q1 t rOffsetAt (fun (rlocal : t0y) =>
 k rlocal (0 : Int))))
theorem zq1o9 (hΓ : GO (zq1o7 zq1q0 zq1q1)) : SpecOk Tryz.prog 120 (zq1o6 (zq1o8 zq1q0 zq1q1)) :=
 pcS mixed (zq1o7 zq1q0 zq1q1) tab_ok hΓ (pick1 []) [.cell 4 95, .tmp 5] Tryz.func120 (by kernel_rfl) (by kernel_rfl) (by kernel_rfl) (by kernel_rfl) CutsOk_nil (fun _ _ => by kernel_rfl)
end
theorem zq1oaΓ : GO (zq1o7 zq1na zqnq) := (ΓOk_cons zq1nb (ΓOk_cons zqnr ΓOk_nil))
def zq1ob : zq1o5 := zq1o8 zq1na zqnq
theorem zq1oc : SpecOk Tryz.prog 120 (zq1o6 zq1ob) := zq1o9 zq1na zqnq zq1oaΓ
end
end Go.Lift
namespace Go.Lift
open Go.Proofs
noncomputable section
set_option maxRecDepth 100000
set_option linter.unusedVariables false
abbrev zq1q2 := {β : Type} → zqe → zq8 → Int → (Int → Option β) → Option β
def zq1q3 (c : zq1q2) : Spec :=
 ⟨[b48y, b61y, b21y], [], [b21y], [], fun x k => c x.1.1.1 x.1.2.1.1 x.1.2.2.1.1 (fun r0 => k (((r0, ()), ()), ()))⟩
abbrev zq1q4 (β : Type) := Int → Option β
abbrev zq1q5 (β : Type) := Int → Int → zqe → zq8 → Option β
abbrev zq1q6 := {β : Type} → zq1q4 β → zq1q5 β
noncomputable def zq1q7 : Pc := ⟨81, 0, codeAt 1018 (bodyOf Tryz.f150), ⟨0, [2, 3, 4, 7], [b21y, b23y, b27y, b21y], [b52y, b42y]⟩, [(.exit 0, ⟨0, [7], [b21y], []⟩)]⟩
@[reducible] def zq1q8 (p : zq1q6) : zq1q7.G := fun d ks => p (fun a0 => ks.1 (((a0, ()), ()), ())) d.1.1.1 d.1.2.2.2.1.1 d.2.1.1 d.2.2.1.1
abbrev zq1q9 (β : Type) := Int → Option β
abbrev zq1qa (β : Type) := Int → Int → zqe → zq8 → t0y → Option β
abbrev zq1qb := {β : Type} → zq1q9 β → zq1qa β
noncomputable def zq1qc : Pc := ⟨81, 0, codeAt 127 (bodyOf Tryz.f150), ⟨0, [2, 3, 4, 10, 12], [b21y, b23y, b27y, b31y, b21y], [b52y, b42y, b44y]⟩, [(.ret, ⟨0, [6], [b21y], []⟩)]⟩
@[reducible] def zq1qd (p : zq1qb) : zq1qc.G := fun d ks => p (fun a0 => ks.1 (((a0, ()), ()), ())) d.1.1.1 d.1.2.2.2.2.1.1 d.2.1.1 d.2.2.1.1 d.2.2.2.1.1
abbrev zq1qe (β : Type) := Int → Option β
abbrev zq1qf (β : Type) := Int → Int → Int → Bool → zq8 → Option β
abbrev zq1qg := {β : Type} → zq1qe β → zq1qf β
noncomputable def zq1qh : Pc := ⟨81, 0, codeAt 467 (bodyOf Tryz.f150), ⟨0, [2, 4, 7, 8, 31], [b21y, b23y, b21y, b21y, b25y], [b42y]⟩, [(.normal, ⟨0, [7], [b21y], []⟩)]⟩
@[reducible] def zq1qi (p : zq1qg) : zq1qh.G := fun d ks => p (fun a0 => ks.1 (((a0, ()), ()), ())) d.1.1.1 d.1.2.2.1.1 d.1.2.2.2.1.1 d.1.2.2.2.2.1.1 d.2.1.1
section
variable (zq1pt : zq1kz) (zq214 : zq1o5) (zq215 : zq1m6)
@[reducible] def zq1qj : Ctx := cx [(153, .spec (zq1l0 zq1pt)), (120, .spec (zq1o6 zq214)), (154, .spec (zq1m7 zq215))]
def zq1qk {β : Type} (rec : zq1q5 β) (k1 : zq1q4 β) : zq1q5 β := fun t k_ z l =>
 cond (decide ((0 : Int) ≤ k_))
 (zq215 z l k_ (fun (rhandover : Int) (rhandover2 : Bool) =>
 cond rhandover2
 (cond (decide (rhandover ≤ t))
 (k1 k_)
 (let k_2 : Int := (IntKind.i64.wrap (k_ - (1 : Int)));
 rec t k_2 z l))
 (let k_2 : Int := (IntKind.i64.wrap (k_ - (1 : Int)));
 rec t k_2 z l)))
 (k1 k_)
def zq1ql {β : Type} (i : Nat) (k1 : zq1q4 β) := lp4 (fun r => zq1qk zq215 r k1) none i
theorem zq1qm (hΓ : GO (zq1qj zq1pt zq214 zq215)) (i : Nat) : OK zq1q7 (zq1q8 (zq1ql zq215 i)) :=
 pcL mixed (zq1qj zq1pt zq214 zq215) tab_ok hΓ (G := fun i => @fun β d ks => zq1q8 (zq1ql zq215 i) d ks) (pick1 []) (by kernel_rfl) rfl (by kernel_rfl) CutsOk_nil (fun _ _ => rfl) (fun _ _ _ _ => by kernel_rfl) i
def zq1qn (p1 : zq1q6) {β : Type} (k1 : zq1q9 β) : zq1qa β := fun t n z l now =>
 cond (!decide (n = 0))
 (let k_ : Int := (IntKind.i64.wrap (Int.tdiv (if (0 : Int) > (IntKind.i64.wrap ((IntKind.i64.wrap (now.1 + (2 : Int))) - l.2.2.1.1)) then (0 : Int) else (IntKind.i64.wrap ((IntKind.i64.wrap (now.1 + (2 : Int))) - l.2.2.1.1))) n));
 p1 (fun (k_2 : Int) =>
 k1 k_2) t k_ z l)
 none
def zq1qo (p1 : zq1q6) {β : Type} (k1 : zq1q9 β) : zq1qa β := zq1qn p1 k1
theorem zq1qp (hΓ : GO (zq1qj zq1pt zq214 zq215)) (p1 : zq1q6) (hp1 : OK zq1q7 (zq1q8 p1)) : OK zq1qc (zq1qd (zq1qo p1)) :=
 pcE mixed (zq1qj zq1pt zq214 zq215) tab_ok hΓ 127 (pick1 [(1018, zq1q7.cut (zq1q8 p1))]) (by kernel_rfl) (CutsOk_cons (by kernel_rfl) rfl hp1 CutsOk_nil) (fun _ _ => by kernel_rfl)
def zq1qq {β : Type} (k1 : zq1qe β) : zq1qf β := fun t k_ first t31 l =>
 cond t31
 (cond (!decide ((IntKind.i64.wrap ((3600 : Int) * l.2.2.2.2.1)) = 0))
 (let k_2 : Int := (IntKind.i64.wrap (Int.tdiv (IntKind.i64.wrap (t - first)) (IntKind.i64.wrap ((3600 : Int) * l.2.2.2.2.1))));
 k1 k_2)
 none)
 (k1 k_)
def zq1qr {β : Type} (k1 : zq1qe β) : zq1qf β := zq1qq k1
theorem zq1qs (hΓ : GO (zq1qj zq1pt zq214 zq215)) : OK zq1qh (zq1qi (zq1qr)) :=
 pcE mixed (zq1qj zq1pt zq214 zq215) tab_ok hΓ 467 (pick1 []) (by kernel_rfl) CutsOk_nil (fun _ _ => by kernel_rfl)
def zq1qt (p2 : zq1qb) (p3 : zq1qg) : zq1q2 := fun z l t k =>
 cond (decide (l.2.2.2.1 = (0 : Int)))
 (zq1pt z l.2.2.1 (fun (rFirst : Int) (rFirst2 : Int) =>
 cond (decide (rFirst2 = (0 : Int)))
 (p3 (fun (k_ : Int) =>
 k k_) t (-1 : Int) rFirst (decide (rFirst ≤ t)) l)
 (p3 (fun (k_ : Int) =>
 k k_) t (-1 : Int) rFirst false l)))
 (zq214 z t (fun (rToLocal : t0y) (rToLocal2 : Int) =>
 cond (decide (l.2.2.2.1 = (2 : Int)))
 (let n : Int := (IntKind.i64.wrap (l.2.2.2.2.1 * (7 : Int)));
 p2 (fun (t6 : Int) =>
 k t6) t n z l rToLocal)
 (p2 (fun (t6 : Int) =>
 k t6) t l.2.2.2.2.1 z l rToLocal)))
theorem zq1qu (hΓ : GO (zq1qj zq1pt zq214 zq215)) (p2 : zq1qb) (p3 : zq1qg) (hp2 : OK zq1qc (zq1qd p2)) (hp3 : OK zq1qh (zq1qi p3)) : SpecOk Tryz.prog 150 (zq1q3 (zq1qt zq1pt zq214 p2 p3)) :=
 pcS mixed (zq1qj zq1pt zq214 zq215) tab_ok hΓ (pick1 [(127, zq1qc.cut (zq1qd p2)), (467, zq1qh.cut (zq1qi p3))]) [.tmp 6] Tryz.func150 (by kernel_rfl) (by kernel_rfl) (by kernel_rfl) (by kernel_rfl) (CutsOk_cons (by kernel_rfl) rfl hp2 (CutsOk_cons (by kernel_rfl) rfl hp3 CutsOk_nil)) (fun _ _ => by kernel_rfl)
end
theorem zq1qvΓ : GO (zq1qj zq1m4 zq1ob zq1mm) := (ΓOk_cons zq1m5 (ΓOk_cons zq1oc (ΓOk_cons zq1mn ΓOk_nil)))
def zq1qw (m : Nat) : zq1q6 := zq1ql zq1mm m
theorem zq1qx {β : Type} (i : Nat) (k1) : zq1qw (β := β) (i + 1) k1 = zq1qk zq1mm (zq1qw i k1) k1 := rfl
def zq1qy : zq1q6 := zq1qw fuel
theorem zq1qz : OK zq1q7 (zq1q8 zq1qy) := zq1qm zq1m4 zq1ob zq1mm zq1qvΓ fuel
def zq1r0 : zq1qb := zq1qo zq1qy
theorem zq1r1 : OK zq1qc (zq1qd zq1r0) := zq1qp zq1m4 zq1ob zq1mm zq1qvΓ zq1qy zq1qz
def zq1r2 : zq1qg := zq1qr
theorem zq1r3 : OK zq1qh (zq1qi zq1r2) := zq1qs zq1m4 zq1ob zq1mm zq1qvΓ
def zq1r4 : zq1q2 := zq1qt zq1m4 zq1ob zq1r0 zq1r2
theorem zq1r5 : SpecOk Tryz.prog 150 (zq1q3 zq1r4) := zq1qu zq1m4 zq1ob zq1mm zq1qvΓ zq1r0 zq1r2 zq1r1 zq1r3
abbrev zq1r6 := {β : Type} → zqi → (Int → Option β) → Option β
def zq1r7 (c : zq1r6) : Spec :=
 ⟨[b36y], [], [b21y], [], fun x k => c x.1.1.1 (fun r0 => k (((r0, ()), ()), ()))⟩
section
variable (zq216 : zq1e7) (zq217 : zq1dm) (zq218 : zq1fi) (zq219 : zq1nk)
@[reducible] def zq1r8 : Ctx := cx [(118, .spec (zq1e8 zq216)), (117, .spec (zq1dn zq217)), (119, .spec (zq1fj zq218)), (116, .spec (zq1nl zq219))]
def zq1r9 : zq1r6 := fun c k =>
 cond (decide ((16 : Int) < (List.length c.1 : Int)))
 (k (5 : Int))
 (cond (decide ((32 : Int) < (List.length c.2.1 : Int)))
 (k (5 : Int))
 (cond (decide ((8 : Int) < (List.length c.2.2.1 : Int)))
 (k (5 : Int))
 (cond (decide ((12 : Int) < (List.length c.2.2.2 : Int)))
 (k (5 : Int))
 (zq219 c (fun (rzones : Int) =>
 cond (!decide (rzones = (0 : Int)))
 (k rzones)
 (zq217 c (fun (rpeople : Int) =>
 cond (!decide (rpeople = (0 : Int)))
 (k rpeople)
 (zq216 c (fun (rcalendars : Int) =>
 cond (!decide (rcalendars = (0 : Int)))
 (k rcalendars)
 (zq218 c (fun (rschedules : Int) =>
 k rschedules)))))))))))
theorem zq1ra (hΓ : GO (zq1r8 zq216 zq217 zq218 zq219)) : SpecOk Tryz.prog 103 (zq1r7 (zq1r9 zq216 zq217 zq218 zq219)) :=
 pcS mixed (zq1r8 zq216 zq217 zq218 zq219) tab_ok hΓ (pick1 []) [.tmp 2] Tryz.func103 (by kernel_rfl) (by kernel_rfl) (by kernel_rfl) (by kernel_rfl) CutsOk_nil (fun _ _ => by kernel_rfl)
end
theorem zq1rbΓ : GO (zq1r8 zq1fg zq1e5 zq1gr zq1o3) := (ΓOk_cons zq1fh (ΓOk_cons zq1e6 (ΓOk_cons zq1gs (ΓOk_cons zq1o4 ΓOk_nil))))
def zq1rc : zq1r6 := zq1r9 zq1fg zq1e5 zq1gr zq1o3
theorem zq1rd : SpecOk Tryz.prog 103 (zq1r7 zq1rc) := zq1ra zq1fg zq1e5 zq1gr zq1o3 zq1rbΓ
abbrev zq1re := {β : Type} → zqe → Int → (Int → Int → Option β) → Option β
def zq1rf (c : zq1re) : Spec :=
 ⟨[b48y, b21y], [], [b21y, b21y], [], fun x k => c x.1.1.1 x.1.2.1.1 (fun r0 r1 => k (((r0, ()), (r1, ()), ()), ()))⟩
section
variable (zq214 : zq1o5) (zq21a : zqz8)
@[reducible] def zq1rg : Ctx := cx [(120, .spec (zq1o6 zq214)), (121, .spec (zqz9 zq21a))]
def zq1rh : zq1re := fun z t k =>
 zq214 z t (fun (rToLocal : t0y) (rToLocal2 : Int) =>
 cond (!decide (rToLocal2 = (0 : Int)))
 (k (0 : Int) rToLocal2)
 (zq21a rToLocal (fun (rsecond : Int) =>
 k rsecond (0 : Int))))
theorem zq1ri (hΓ : GO (zq1rg zq214 zq21a)) : SpecOk Tryz.prog 105 (zq1rf (zq1rh zq214 zq21a)) :=
 pcS mixed (zq1rg zq214 zq21a) tab_ok hΓ (pick1 []) [.tmp 4, .tmp 5] Tryz.func105 (by kernel_rfl) (by kernel_rfl) (by kernel_rfl) (by kernel_rfl) CutsOk_nil (fun _ _ => by kernel_rfl)
end
theorem zq1rjΓ : GO (zq1rg zq1ob zqze) := (ΓOk_cons zq1oc (ΓOk_cons zqzf ΓOk_nil))
def zq1rk : zq1re := zq1rh zq1ob zqze
theorem zq1rl : SpecOk Tryz.prog 105 (zq1rf zq1rk) := zq1ri zq1ob zqze zq1rjΓ
abbrev zq1rm := {β : Type} → zqi → Int → Int → (Bool → Option β) → Option β
def zq1rn (c : zq1rm) : Spec :=
 ⟨[b36y, b21y, b21y], [], [b25y], [], fun x k => c x.1.1.1 x.1.2.1.1 x.1.2.2.1.1 (fun r0 => k (((r0, ()), ()), ()))⟩
section
variable (zq21b : zq1r6)
@[reducible] def zq1ro : Ctx := cx [(103, .spec (zq1r7 zq21b))]
def zq1rp : zq1rm := fun c schedule t k =>
 cond (decide ((0 : Int) ≤ schedule))
 (cond (decide (schedule < (List.length c.2.2.2 : Int)))
 (cond (decide ((0 : Int) ≤ t))
 (cond (decide (t ≤ (8589934592 : Int)))
 (zq21b c (fun (rCheck : Int) =>
 let t2 : Bool := (decide (rCheck = (0 : Int)));
 k t2))
 (k false))
 (k false))
 (k false))
 (k false)
theorem zq1rq (hΓ : GO (zq1ro zq21b)) : SpecOk Tryz.prog 114 (zq1rn (zq1rp zq21b)) :=
 pcS mixed (zq1ro zq21b) tab_ok hΓ (pick1 []) [.tmp 6] Tryz.func114 (by kernel_rfl) (by kernel_rfl) (by kernel_rfl) (by kernel_rfl) CutsOk_nil (fun _ _ => by kernel_rfl)
end
theorem zq1rrΓ : GO (zq1ro zq1rc) := (ΓOk_cons zq1rd ΓOk_nil)
def zq1rs : zq1rm := zq1rp zq1rc
theorem zq1rt : SpecOk Tryz.prog 114 (zq1rn zq1rs) := zq1rq zq1rc zq1rrΓ
abbrev zq1ru := {β : Type} → zqe → zq8 → Int → (Int → Int → Option β) → Option β
def zq1rv (c : zq1ru) : Spec :=
 ⟨[b48y, b61y, b21y], [], [b21y, b21y], [], fun x k => c x.1.1.1 x.1.2.1.1 x.1.2.2.1.1 (fun r0 r1 => k (((r0, ()), (r1, ()), ()), ()))⟩
section
variable (zq21c : zq1nc) (zq21d : zq1q2)
@[reducible] def zq1rw : Ctx := cx [(149, .spec (zq1nd zq21c)), (150, .spec (zq1q3 zq21d))]
def zq1rx : zq1ru := fun z l t k =>
 zq21c z l (fun (rCheck : Int) =>
 cond (!decide (rCheck = (0 : Int)))
 (k (0 : Int) (8 : Int))
 (cond (decide (t < (0 : Int)))
 (k (0 : Int) (1 : Int))
 (cond (decide ((8589934592 : Int) < t))
 (k (0 : Int) (1 : Int))
 (zq21d z l t (fun (rshift : Int) =>
 k rshift (0 : Int))))))
theorem zq1ry (hΓ : GO (zq1rw zq21c zq21d)) : SpecOk Tryz.prog 147 (zq1rv (zq1rx zq21c zq21d)) :=
 pcS mixed (zq1rw zq21c zq21d) tab_ok hΓ (pick1 []) [.tmp 6, .tmp 7] Tryz.func147 (by kernel_rfl) (by kernel_rfl) (by kernel_rfl) (by kernel_rfl) CutsOk_nil (fun _ _ => by kernel_rfl)
end
theorem zq1rzΓ : GO (zq1rw zq1ni zq1r4) := (ΓOk_cons zq1nj (ΓOk_cons zq1r5 ΓOk_nil))
def zq1s0 : zq1ru := zq1rx zq1ni zq1r4
theorem zq1s1 : SpecOk Tryz.prog 147 (zq1rv zq1s0) := zq1ry zq1ni zq1r4 zq1rzΓ
abbrev zq1s2 := {β : Type} → zqi → Int → Int → Int → (Int → Option β) → Option β
def zq1s3 (c : zq1s2) : Spec :=
 ⟨[b36y, b21y, b21y, b21y], [], [b21y], [], fun x k => c x.1.1.1 x.1.2.1.1 x.1.2.2.1.1 x.1.2.2.2.1.1 (fun r0 => k (((r0, ()), ()), ()))⟩
abbrev zq1s4 (β : Type) := Int → Option β
abbrev zq1s5 (β : Type) := Unit → Option β
abbrev zq1s6 (β : Type) := Int → Int → Bool → Option β
abbrev zq1s7 := {β : Type} → zq1s4 β → zq1s5 β → zq1s6 β
noncomputable def zq1s8 : Pc := ⟨28, 0, codeAt 103 (bodyOf Tryz.f89), ⟨0, [2, 3, 13], [b21y, b21y, b25y], []⟩, [(.ret, ⟨0, [8], [b21y], []⟩), (.normal, ⟨0, [], [], []⟩)]⟩
@[reducible] def zq1s9 (p : zq1s7) : zq1s8.G := fun d ks => p (fun a0 => ks.1 (((a0, ()), ()), ())) (fun _ => ks.2.1 ((), ())) d.1.1.1 d.1.2.1.1 d.1.2.2.1.1
section
variable (zq21e : zqk2) (zq21b : zq1r6)
@[reducible] def zq1sa : Ctx := cx [(104, .spec (zqk3 zq21e)), (103, .spec (zq1r7 zq21b))]
def zq1sb {β : Type} (k1 : zq1s4 β) (k2 : zq1s5 β) : zq1s6 β := fun from_ to_ t13 =>
 cond t13
 (k1 (3 : Int))
 (zq21e from_ to_ (fun (rRange : Bool) =>
 cond (!rRange)
 (k1 (1 : Int))
 (k2 ())))
def zq1sc {β : Type} (k1 : zq1s4 β) (k2 : zq1s5 β) : zq1s6 β := zq1sb zq21e k1 k2
theorem zq1sd (hΓ : GO (zq1sa zq21e zq21b)) : OK zq1s8 (zq1s9 (zq1sc zq21e)) :=
 pcE mixed (zq1sa zq21e zq21b) tab_ok hΓ 103 (pick1 []) (by kernel_rfl) CutsOk_nil (fun _ _ => by kernel_rfl)
def zq1se (p1 : zq1s7) : zq1s2 := fun c person from_ to_ k =>
 zq21b c (fun (rCheck : Int) =>
 let t : Bool := (!decide (rCheck = (0 : Int)));
 cond t
 (k (8 : Int))
 (cond (decide (person < (0 : Int)))
 (p1 (fun (t8 : Int) =>
 k t8) (fun (_ : Unit) =>
 k (0 : Int)) from_ to_ true)
 (let t2 : Bool := (decide ((List.length c.2.1 : Int) ≤ person));
 p1 (fun (t8 : Int) =>
 k t8) (fun (_ : Unit) =>
 k (0 : Int)) from_ to_ t2)))
theorem zq1sf (hΓ : GO (zq1sa zq21e zq21b)) (p1 : zq1s7) (hp1 : OK zq1s8 (zq1s9 p1)) : SpecOk Tryz.prog 89 (zq1s3 (zq1se zq21b p1)) :=
 pcS mixed (zq1sa zq21e zq21b) tab_ok hΓ (pick1 [(103, zq1s8.cut (zq1s9 p1))]) [.tmp 8] Tryz.func89 (by kernel_rfl) (by kernel_rfl) (by kernel_rfl) (by kernel_rfl) (CutsOk_cons (by kernel_rfl) rfl hp1 CutsOk_nil) (fun _ _ => by kernel_rfl)
end
theorem zq1sgΓ : GO (zq1sa zqk8 zq1rc) := (ΓOk_cons zqk9 (ΓOk_cons zq1rd ΓOk_nil))
def zq1sh : zq1s7 := zq1sc zqk8
theorem zq1si : OK zq1s8 (zq1s9 zq1sh) := zq1sd zqk8 zq1rc zq1sgΓ
def zq1sj : zq1s2 := zq1se zq1rc zq1sh
theorem zq1sk : SpecOk Tryz.prog 89 (zq1s3 zq1sj) := zq1sf zqk8 zq1rc zq1sgΓ zq1sh zq1si
abbrev zq1sl := {β : Type} → zqe → t8y → Int → (Bool → Option β) → Option β
def zq1sm (c : zq1sl) : Spec :=
 ⟨[b48y, b26y, b21y], [], [b25y], [], fun x k => c x.1.1.1 x.1.2.1.1 x.1.2.2.1.1 (fun r0 => k (((r0, ()), ()), ()))⟩
section
variable (zq1og : zqka) (zq21f : zq1re) (zq21g : zqkv)
@[reducible] def zq1sn : Ctx := cx [(106, .spec (zqkb zq1og)), (105, .spec (zq1rf zq21f)), (107, .spec (zqkw zq21g))]
def zq1so : zq1sl := fun z l t k =>
 zq21f z t (fun (rSecond : Int) (rSecond2 : Int) =>
 cond (decide (rSecond2 = (0 : Int)))
 (zq1og l (fun (rCheck : Int) =>
 cond (decide (rCheck = (0 : Int)))
 (zq21g l rSecond (fun (rWithin : Bool) =>
 k rWithin))
 (k false)))
 (k false))
theorem zq1sp (hΓ : GO (zq1sn zq1og zq21f zq21g)) : SpecOk Tryz.prog 90 (zq1sm (zq1so zq1og zq21f zq21g)) :=
 pcS mixed (zq1sn zq1og zq21f zq21g) tab_ok hΓ (pick1 []) [.tmp 6] Tryz.func90 (by kernel_rfl) (by kernel_rfl) (by kernel_rfl) (by kernel_rfl) CutsOk_nil (fun _ _ => by kernel_rfl)
end
theorem zq1sqΓ : GO (zq1sn zqkt zq1rk zqle) := (ΓOk_cons zqku (ΓOk_cons zq1rl (ΓOk_cons zqlf ΓOk_nil)))
def zq1sr : zq1sl := zq1so zqkt zq1rk zqle
theorem zq1ss : SpecOk Tryz.prog 90 (zq1sm zq1sr) := zq1sp zqkt zq1rk zqle zq1sqΓ
abbrev zq1st := {β : Type} → zqi → zq8 → Int → (Int → Bool → Option β) → Option β
def zq1su (c : zq1st) : Spec :=
 ⟨[b36y, b61y, b21y], [], [b21y, b25y], [], fun x k => c x.1.1.1 x.1.2.1.1 x.1.2.2.1.1 (fun r0 r1 => k (((r0, ()), (r1, ()), ()), ()))⟩
abbrev zq1sv (β : Type) := Int → Bool → zq8 → Option β
abbrev zq1sw (β : Type) := Int → Bool → Int → zq8 → zq6 → t0y → Option β
abbrev zq1sx := {β : Type} → zq1sv β → zq1sw β
noncomputable def zq1sy : Pc := ⟨94, 0, codeAt 4090 (bodyOf Tryz.f143), ⟨0, [4, 9, 11, 12, 14, 15], [b23y, b21y, b27y, b31y, b25y, b21y], [b42y, b69y, b44y]⟩, [(.exit 0, ⟨0, [4, 9, 14], [b23y, b21y, b25y], [b42y]⟩)]⟩
@[reducible] def zq1sz (p : zq1sx) : zq1sy.G := fun d ks => p (fun a0 a1 a2 => ks.1 (((), (a0, ()), (a1, ()), ()), ((a2, ()), ()))) d.1.2.1.1 d.1.2.2.2.2.1.1 d.1.2.2.2.2.2.1.1 d.2.1.1 d.2.2.1.1 d.2.2.2.1.1
abbrev zq1t0 (β : Type) := Int → Bool → Option β
abbrev zq1t1 (β : Type) := Int → Int → zqi → zq8 → Option β
abbrev zq1t2 := {β : Type} → zq1t0 β → zq1t1 β
noncomputable def zq1t3 : Pc := ⟨94, 0, codeAt 31 (bodyOf Tryz.f143), ⟨0, [2, 3, 4, 9], [b21y, b23y, b27y, b21y], [b29y, b42y]⟩, [(.ret, ⟨0, [6, 7], [b21y, b25y], []⟩)]⟩
@[reducible] def zq1t4 (p : zq1t2) : zq1t3.G := fun d ks => p (fun a0 a1 => ks.1 (((a0, ()), (a1, ()), ()), ())) d.1.1.1 d.1.2.2.2.1.1 d.2.1.1 d.2.2.1.1
section
variable (zq214 : zq1o5) (zq21h : zq1sl) (zq21i : zq1ru)
@[reducible] def zq1t5 : Ctx := cx [(120, .spec (zq1o6 zq214)), (90, .spec (zq1sm zq21h)), (147, .spec (zq1rv zq21i))]
def zq1t6 {β : Type} (rec : zq1sw β) (k1 : zq1sv β) : zq1sw β := fun k_ there i_ l x at_ =>
 cond (decide (i_ < (List.length x.2.2 : Int)))
 (cond there
 (let i_2 : Int := (IntKind.i64.wrap (i_ + (1 : Int)));
 rec k_ true i_2 l x at_)
 (cond (decide (0 ≤ i_) && decide (i_ < (List.length x.2.2 : Int)))
 (let e : Int := List.getD x.2.2 (Int.toNat i_) (0 : Int);
 let i_2 : Int := (IntKind.i64.wrap (i_ + (1 : Int)));
 rec k_ (decide (e = at_.1)) i_2 l x at_)
 none))
 (k1 k_ there l)
def zq1t7 {β : Type} (i : Nat) (k1 : zq1sv β) := lp6 (fun r => zq1t6 r k1) none i
theorem zq1t8 (hΓ : GO (zq1t5 zq214 zq21h zq21i)) (i : Nat) : OK zq1sy (zq1sz (zq1t7 i)) :=
 pcL mixed (zq1t5 zq214 zq21h zq21i) tab_ok hΓ (G := fun i => @fun β d ks => zq1sz (zq1t7 i) d ks) (pick1 []) (by kernel_rfl) rfl (by kernel_rfl) CutsOk_nil (fun _ _ => rfl) (fun _ _ _ _ => by kernel_rfl) i
def zq1t9 (p1 : zq1sx) {β : Type} (k1 : zq1t0 β) : zq1t1 β := fun t k_ c l =>
 cond (decide (l.2.2.2.2.2.2.2.2 = (0 : Int)))
 (k1 k_ true)
 (cond (decide (0 ≤ l.2.2.2.2.2.2.2.1) && decide (l.2.2.2.2.2.2.2.1 < (List.length c.2.2.1 : Int)))
 (let e : zq6 := List.getD c.2.2.1 (Int.toNat l.2.2.2.2.2.2.2.1) (([] : List UInt8), ((0 : Int), ([] : List Int)));
 cond (decide (0 ≤ e.2.1) && decide (e.2.1 < (List.length c.1 : Int)))
 (let e2 : zqe := List.getD c.1 (Int.toNat e.2.1) (([] : List UInt8), ((0 : Int), ([] : List t5y)));
 zq214 e2 t (fun (rToLocal : t0y) (rToLocal2 : Int) =>
 p1 (fun (k_2 : Int) (there : Bool) (l2 : zq8) =>
 let t2 : Bool := (there == (decide (l2.2.2.2.2.2.2.2.2 = (2 : Int))));
 k1 k_2 t2) k_ false (0 : Int) l e rToLocal))
 none)
 none)
def zq1ta (p1 : zq1sx) {β : Type} (k1 : zq1t0 β) : zq1t1 β := zq1t9 zq214 p1 k1
theorem zq1tb (hΓ : GO (zq1t5 zq214 zq21h zq21i)) (p1 : zq1sx) (hp1 : OK zq1sy (zq1sz p1)) : OK zq1t3 (zq1t4 (zq1ta zq214 p1)) :=
 pcE mixed (zq1t5 zq214 zq21h zq21i) tab_ok hΓ 31 (pick1 [(4090, zq1sy.cut (zq1sz p1))]) (by kernel_rfl) (CutsOk_cons (by kernel_rfl) rfl hp1 CutsOk_nil) (fun _ _ => by kernel_rfl)
def zq1tc (p2 : zq1t2) : zq1st := fun c l t k =>
 cond (decide (0 ≤ l.2.1) && decide (l.2.1 < (List.length c.1 : Int)))
 (let e : zqe := List.getD c.1 (Int.toNat l.2.1) (([] : List UInt8), ((0 : Int), ([] : List t5y)));
 zq21i e l t (fun (rShift : Int) (rShift2 : Int) =>
 cond (!decide (rShift2 = (0 : Int)))
 (k (0 : Int) false)
 (cond (decide (rShift < (0 : Int)))
 (k (0 : Int) false)
 (cond (decide ((0 : Int) < (List.length l.2.2.2.2.2.2.1 : Int)))
 (zq21h e l.2.2.2.2.2.2.1 t (fun (rIn : Bool) =>
 cond (!rIn)
 (k (0 : Int) false)
 (p2 (fun (t6 : Int) (t7 : Bool) =>
 k t6 t7) t rShift c l)))
 (p2 (fun (t6 : Int) (t7 : Bool) =>
 k t6 t7) t rShift c l)))))
 none
theorem zq1td (hΓ : GO (zq1t5 zq214 zq21h zq21i)) (p2 : zq1t2) (hp2 : OK zq1t3 (zq1t4 p2)) : SpecOk Tryz.prog 143 (zq1su (zq1tc zq21h zq21i p2)) :=
 pcS mixed (zq1t5 zq214 zq21h zq21i) tab_ok hΓ (pick1 [(31, zq1t3.cut (zq1t4 p2))]) [.tmp 6, .tmp 7] Tryz.func143 (by kernel_rfl) (by kernel_rfl) (by kernel_rfl) (by kernel_rfl) (CutsOk_cons (by kernel_rfl) rfl hp2 CutsOk_nil) (fun _ _ => by kernel_rfl)
end
theorem zq1teΓ : GO (zq1t5 zq1ob zq1sr zq1s0) := (ΓOk_cons zq1oc (ΓOk_cons zq1ss (ΓOk_cons zq1s1 ΓOk_nil)))
def zq1tf (m : Nat) : zq1sx := zq1t7 m
theorem zq1tg {β : Type} (i : Nat) (k1) : zq1tf (β := β) (i + 1) k1 = zq1t6 (zq1tf i k1) k1 := rfl
def zq1th : zq1sx := zq1tf fuel
theorem zq1ti : OK zq1sy (zq1sz zq1th) := zq1t8 zq1ob zq1sr zq1s0 zq1teΓ fuel
def zq1tj : zq1t2 := zq1ta zq1ob zq1th
theorem zq1tk : OK zq1t3 (zq1t4 zq1tj) := zq1tb zq1ob zq1sr zq1s0 zq1teΓ zq1th zq1ti
def zq1tl : zq1st := zq1tc zq1sr zq1s0 zq1tj
theorem zq1tm : SpecOk Tryz.prog 143 (zq1su zq1tl) := zq1td zq1ob zq1sr zq1s0 zq1teΓ zq1tj zq1tk
abbrev zq1tn := {β : Type} → zqi → Int → Int → Bool → (Bool → Option β) → Option β
def zq1to (c : zq1tn) : Spec :=
 ⟨[b36y, b21y, b21y, b25y], [], [b25y], [], fun x k => c x.1.1.1 x.1.2.1.1 x.1.2.2.1.1 x.1.2.2.2.1.1 (fun r0 => k (((r0, ()), ()), ()))⟩
section
variable (zq21h : zq1sl) (zq21j : zq1s2)
@[reducible] def zq1tp : Ctx := cx [(90, .spec (zq1sm zq21h)), (89, .spec (zq1s3 zq21j))]
def zq1tq : zq1tn := fun c person at_ urgent k =>
 zq21j c person at_ at_ (fun (rWrong : Int) =>
 cond (!decide (rWrong = (0 : Int)))
 (k false)
 (cond (decide (0 ≤ person) && decide (person < (List.length c.2.1 : Int)))
 (let e : zqg := List.getD c.2.1 (Int.toNat person) (([] : List UInt8), ((0 : Int), (([] : List t0y), ((0 : Int), ((0 : Int), false)))));
 cond (decide (0 ≤ e.2.1) && decide (e.2.1 < (List.length c.1 : Int)))
 (let e2 : zqe := List.getD c.1 (Int.toNat e.2.1) (([] : List UInt8), ((0 : Int), ([] : List t5y)));
 zq21h e2 e.2.2.1 at_ (fun (rIn : Bool) =>
 cond (!rIn)
 (k true)
 (cond urgent
 (k e.2.2.2.2.2)
 (k false))))
 none)
 none))
theorem zq1tr (hΓ : GO (zq1tp zq21h zq21j)) : SpecOk Tryz.prog 83 (zq1to (zq1tq zq21h zq21j)) :=
 pcS mixed (zq1tp zq21h zq21j) tab_ok hΓ (pick1 []) [.tmp 8] Tryz.func83 (by kernel_rfl) (by kernel_rfl) (by kernel_rfl) (by kernel_rfl) CutsOk_nil (fun _ _ => by kernel_rfl)
end
theorem zq1tsΓ : GO (zq1tp zq1sr zq1sj) := (ΓOk_cons zq1ss (ΓOk_cons zq1sk ΓOk_nil))
def zq1tt : zq1tn := zq1tq zq1sr zq1sj
theorem zq1tu : SpecOk Tryz.prog 83 (zq1to zq1tt) := zq1tr zq1sr zq1sj zq1tsΓ
abbrev zq1tv := {β : Type} → zqi → zq8 → Int → (Int → Option β) → Option β
def zq1tw (c : zq1tv) : Spec :=
 ⟨[b36y, b61y, b21y], [], [b21y], [], fun x k => c x.1.1.1 x.1.2.1.1 x.1.2.2.1.1 (fun r0 => k (((r0, ()), ()), ()))⟩
section
variable (zq21k : zq1st)
@[reducible] def zq1tx : Ctx := cx [(143, .spec (zq1su zq21k))]
def zq1ty : zq1tv := fun c l t k =>
 zq21k c l t (fun (rlook : Int) (rlook2 : Bool) =>
 cond (!rlook2)
 (k (-1 : Int))
 (cond (!decide ((List.length l.2.2.2.2.2.1 : Int) = 0))
 (cond (decide (0 ≤ (Int.tmod rlook (List.length l.2.2.2.2.2.1 : Int))) && decide ((Int.tmod rlook (List.length l.2.2.2.2.2.1 : Int)) < (List.length l.2.2.2.2.2.1 : Int)))
 (let e : Int := List.getD l.2.2.2.2.2.1 (Int.toNat (Int.tmod rlook (List.length l.2.2.2.2.2.1 : Int))) (0 : Int);
 k e)
 none)
 none))
theorem zq1tz (hΓ : GO (zq1tx zq21k)) : SpecOk Tryz.prog 136 (zq1tw (zq1ty zq21k)) :=
 pcS mixed (zq1tx zq21k) tab_ok hΓ (pick1 []) [.tmp 6] Tryz.func136 (by kernel_rfl) (by kernel_rfl) (by kernel_rfl) (by kernel_rfl) CutsOk_nil (fun _ _ => by kernel_rfl)
end
theorem zq1u0Γ : GO (zq1tx zq1tl) := (ΓOk_cons zq1tm ΓOk_nil)
def zq1u1 : zq1tv := zq1ty zq1tl
theorem zq1u2 : SpecOk Tryz.prog 136 (zq1tw zq1u1) := zq1tz zq1tl zq1u0Γ
abbrev zq1u3 := {β : Type} → zqi → Int → Int → (Int → Int → Option β) → Option β
def zq1u4 (c : zq1u3) : Spec :=
 ⟨[b36y, b21y, b21y], [], [b21y, b21y], [], fun x k => c x.1.1.1 x.1.2.1.1 x.1.2.2.1.1 (fun r0 r1 => k (((r0, ()), (r1, ()), ()), ()))⟩
abbrev zq1u5 (β : Type) := Int → Int → Option β
abbrev zq1u6 (β : Type) := Unit → Option β
abbrev zq1u7 (β : Type) := Int → Int → zqi → zqc → Option β
abbrev zq1u8 := {β : Type} → zq1u5 β → zq1u6 β → zq1u7 β
noncomputable def zq1u9 : Pc := ⟨43, 0, codeAt 58 (bodyOf Tryz.f123), ⟨0, [2, 3, 8, 9], [b21y, b23y, b27y, b21y], [b29y, b65y]⟩, [(.ret, ⟨0, [6, 7], [b21y, b21y], []⟩), (.exit 0, ⟨0, [], [], []⟩)]⟩
@[reducible] def zq1ua (p : zq1u8) : zq1u9.G := fun d ks => p (fun a0 a1 => ks.1 (((a0, ()), (a1, ()), ()), ())) (fun _ => ks.2.1 ((), ())) d.1.1.1 d.1.2.2.2.1.1 d.2.1.1 d.2.2.1.1
section
variable (zq21l : zq1tv) (zq21m : zqo0)
@[reducible] def zq1ub : Ctx := cx [(136, .spec (zq1tw zq21l)), (137, .spec (zqo1 zq21m))]
def zq1uc {β : Type} (rec : zq1u7 β) (k1 : zq1u5 β) (k2 : zq1u6 β) : zq1u7 β := fun t i_ c s =>
 cond (decide ((0 : Int) ≤ i_))
 (cond (decide (0 ≤ i_) && decide (i_ < (List.length s.2.1 : Int)))
 (let e : zq8 := List.getD s.2.1 (Int.toNat i_) (([] : List UInt8), ((0 : Int), (((0 : Int), (0 : Int)), ((0 : Int), ((0 : Int), (([] : List Int), (([] : List t0y), ((0 : Int), (0 : Int)))))))));
 zq21l c e t (fun (rRaw : Int) =>
 cond (decide ((0 : Int) ≤ rRaw))
 (zq21m s rRaw t (fun (rAway : Bool) =>
 cond (!rAway)
 (k1 i_ rRaw)
 (let i_2 : Int := (IntKind.i64.wrap (i_ - (1 : Int)));
 rec t i_2 c s)))
 (let i_2 : Int := (IntKind.i64.wrap (i_ - (1 : Int)));
 rec t i_2 c s)))
 none)
 (k2 ())
def zq1ud {β : Type} (i : Nat) (k1 : zq1u5 β) (k2 : zq1u6 β) := lp4 (fun r => zq1uc zq21l zq21m r k1 k2) none i
theorem zq1ue (hΓ : GO (zq1ub zq21l zq21m)) (i : Nat) : OK zq1u9 (zq1ua (zq1ud zq21l zq21m i)) :=
 pcL mixed (zq1ub zq21l zq21m) tab_ok hΓ (G := fun i => @fun β d ks => zq1ua (zq1ud zq21l zq21m i) d ks) (pick1 []) (by kernel_rfl) rfl (by kernel_rfl) CutsOk_nil (fun _ _ => rfl) (fun _ _ _ _ => by kernel_rfl) i
def zq1uf (p1 : zq1u8) : zq1u3 := fun c schedule t k =>
 cond (decide (0 ≤ schedule) && decide (schedule < (List.length c.2.2.2 : Int)))
 (let e : zqc := List.getD c.2.2.2 (Int.toNat schedule) (([] : List UInt8), (([] : List zq8), ([] : List zqa)));
 let i_ : Int := (IntKind.i64.wrap ((List.length e.2.1 : Int) - (1 : Int)));
 p1 (fun (t6 : Int) (t7 : Int) =>
 k t6 t7) (fun (_ : Unit) =>
 k (-1 : Int) (-1 : Int)) t i_ c e)
 none
theorem zq1ug (hΓ : GO (zq1ub zq21l zq21m)) (p1 : zq1u8) (hp1 : OK zq1u9 (zq1ua p1)) : SpecOk Tryz.prog 123 (zq1u4 (zq1uf p1)) :=
 pcS mixed (zq1ub zq21l zq21m) tab_ok hΓ (pick1 [(58, zq1u9.cut (zq1ua p1))]) [.tmp 6, .tmp 7] Tryz.func123 (by kernel_rfl) (by kernel_rfl) (by kernel_rfl) (by kernel_rfl) (CutsOk_cons (by kernel_rfl) rfl hp1 CutsOk_nil) (fun _ _ => by kernel_rfl)
end
theorem zq1uhΓ : GO (zq1ub zq1u1 zqoj) := (ΓOk_cons zq1u2 (ΓOk_cons zqok ΓOk_nil))
def zq1ui (m : Nat) : zq1u8 := zq1ud zq1u1 zqoj m
theorem zq1uj {β : Type} (i : Nat) (k1 k2) : zq1ui (β := β) (i + 1) k1 k2 = zq1uc zq1u1 zqoj (zq1ui i k1 k2) k1 k2 := rfl
def zq1uk : zq1u8 := zq1ui fuel
theorem zq1ul : OK zq1u9 (zq1ua zq1uk) := zq1ue zq1u1 zqoj zq1uhΓ fuel
def zq1um : zq1u3 := zq1uf zq1uk
theorem zq1un : SpecOk Tryz.prog 123 (zq1u4 zq1um) := zq1ug zq1u1 zqoj zq1uhΓ zq1uk zq1ul
abbrev zq1uo := {β : Type} → zqi → Int → Int → (Int → Option β) → Option β
def zq1up (c : zq1uo) : Spec :=
 ⟨[b36y, b21y, b21y], [], [b21y], [], fun x k => c x.1.1.1 x.1.2.1.1 x.1.2.2.1.1 (fun r0 => k (((r0, ()), ()), ()))⟩
section
variable (zq21n : zq1u3) (zq21o : zqlg)
@[reducible] def zq1uq : Ctx := cx [(123, .spec (zq1u4 zq21n)), (124, .spec (zqlh zq21o))]
def zq1ur : zq1uo := fun c schedule t k =>
 zq21n c schedule t (fun (rTop : Int) (rTop2 : Int) =>
 cond (decide (0 ≤ schedule) && decide (schedule < (List.length c.2.2.2 : Int)))
 (let e : zqc := List.getD c.2.2.2 (Int.toNat schedule) (([] : List UInt8), (([] : List zq8), ([] : List zqa)));
 zq21o e.2.2 rTop2 t (fun (rFold : Int) =>
 k rFold))
 none)
theorem zq1us (hΓ : GO (zq1uq zq21n zq21o)) : SpecOk Tryz.prog 115 (zq1up (zq1ur zq21n zq21o)) :=
 pcS mixed (zq1uq zq21n zq21o) tab_ok hΓ (pick1 []) [.tmp 6] Tryz.func115 (by kernel_rfl) (by kernel_rfl) (by kernel_rfl) (by kernel_rfl) CutsOk_nil (fun _ _ => by kernel_rfl)
end
theorem zq1utΓ : GO (zq1uq zq1um zqmi) := (ΓOk_cons zq1un (ΓOk_cons zqmj ΓOk_nil))
def zq1uu : zq1uo := zq1ur zq1um zqmi
theorem zq1uv : SpecOk Tryz.prog 115 (zq1up zq1uu) := zq1us zq1um zqmi zq1utΓ
abbrev zq1uw := {β : Type} → zqi → Int → Int → (Int → Option β) → Option β
def zq1ux (c : zq1uw) : Spec :=
 ⟨[b36y, b21y, b21y], [], [b21y], [], fun x k => c x.1.1.1 x.1.2.1.1 x.1.2.2.1.1 (fun r0 => k (((r0, ()), ()), ()))⟩
section
variable (zq21p : zq1rm) (zq21q : zq1uo)
@[reducible] def zq1uy : Ctx := cx [(114, .spec (zq1rn zq21p)), (115, .spec (zq1up zq21q))]
def zq1uz : zq1uw := fun c schedule t k =>
 zq21p c schedule t (fun (rOk : Bool) =>
 cond (!rOk)
 (k (-1 : Int))
 (zq21q c schedule t (fun (rRaw : Int) =>
 k rRaw)))
theorem zq1v0 (hΓ : GO (zq1uy zq21p zq21q)) : SpecOk Tryz.prog 102 (zq1ux (zq1uz zq21p zq21q)) :=
 pcS mixed (zq1uy zq21p zq21q) tab_ok hΓ (pick1 []) [.tmp 6] Tryz.func102 (by kernel_rfl) (by kernel_rfl) (by kernel_rfl) (by kernel_rfl) CutsOk_nil (fun _ _ => by kernel_rfl)
end
theorem zq1v1Γ : GO (zq1uy zq1rs zq1uu) := (ΓOk_cons zq1rt (ΓOk_cons zq1uv ΓOk_nil))
def zq1v2 : zq1uw := zq1uz zq1rs zq1uu
theorem zq1v3 : SpecOk Tryz.prog 102 (zq1ux zq1v2) := zq1v0 zq1rs zq1uu zq1v1Γ
abbrev zq1v4 := {β : Type} → zqi → Int → Int → (Int → Option β) → Option β
def zq1v5 (c : zq1v4) : Spec :=
 ⟨[b36y, b21y, b21y], [], [b21y], [], fun x k => c x.1.1.1 x.1.2.1.1 x.1.2.2.1.1 (fun r0 => k (((r0, ()), ()), ()))⟩
section
variable (zq21r : zq1uw)
@[reducible] def zq1v6 : Ctx := cx [(102, .spec (zq1ux zq21r))]
def zq1v7 : zq1v4 := fun c schedule at_ k =>
 zq21r c schedule at_ (fun (rWho : Int) =>
 k rWho)
theorem zq1v8 (hΓ : GO (zq1v6 zq21r)) : SpecOk Tryz.prog 88 (zq1v5 (zq1v7 zq21r)) :=
 pcS mixed (zq1v6 zq21r) tab_ok hΓ (pick1 []) [.tmp 6] Tryz.func88 (by kernel_rfl) (by kernel_rfl) (by kernel_rfl) (by kernel_rfl) CutsOk_nil (fun _ _ => by kernel_rfl)
end
theorem zq1v9Γ : GO (zq1v6 zq1v2) := (ΓOk_cons zq1v3 ΓOk_nil)
def zq1va : zq1v4 := zq1v7 zq1v2
theorem zq1vb : SpecOk Tryz.prog 88 (zq1v5 zq1va) := zq1v8 zq1v2 zq1v9Γ
abbrev zq1vc := {β : Type} → zqi → zq4 → t8y → Int → (t6y → Option β) → Option β
def zq1vd (c : zq1vc) : Spec :=
 ⟨[b36y, b59y, b26y, b21y], [], [b46y], [.row 3 (.int .i64)], fun x k => c x.1.1.1 x.1.2.1.1 x.1.2.2.1.1 x.1.2.2.2.1.1 (fun r0 => k (((), ()), (r0, ())))⟩
abbrev zq1ve (β : Type) := t6y → Option β
abbrev zq1vf (β : Type) := t8y → Int → Int → zqi → zq4 → t6y → Option β
abbrev zq1vg := {β : Type} → zq1ve β → zq1vf β
noncomputable def zq1vh : Pc := ⟨117, 0, codeAt 58 (bodyOf Tryz.f82), ⟨0, [2, 3, 4, 5, 9, 10], [b26y, b21y, b23y, b27y, b45y, b21y], [b29y, b41y, .row 3 (.int .i64)]⟩, [(.exit 0, ⟨0, [9], [b46y], [.row 3 (.int .i64)]⟩)]⟩
@[reducible] def zq1vi (p : zq1vg) : zq1vh.G := fun d ks => p (fun a0 => ks.1 (((), ()), (a0, ()))) d.1.1.1 d.1.2.1.1 d.1.2.2.2.2.2.1.1 d.2.1.1 d.2.2.1.1 d.2.2.2.1
abbrev zq1vj (β : Type) := t8y → Int → Int → zqi → zq4 → t6y → Option β
abbrev zq1vk (β : Type) := t8y → Int → Int → Int → zqi → zq4 → t6y → t0y → Option β
abbrev zq1vl := {β : Type} → zq1vj β → zq1vk β
noncomputable def zq1vm : Pc := ⟨117, 0, codeAt 13050 (loopBody zq1vh.c), ⟨0, [2, 3, 4, 5, 9, 10, 11, 13], [b26y, b21y, b23y, b27y, b45y, b21y, b38y, b21y], [b29y, b41y, .row 3 (.int .i64), b53y]⟩, [(.exit 3, ⟨0, [2, 3, 4, 5, 9, 10], [b26y, b21y, b23y, b27y, b45y, b21y], [b29y, b41y, .row 3 (.int .i64)]⟩)]⟩
@[reducible] def zq1vn (p : zq1vl) : zq1vm.G := fun d ks => p (fun a0 a1 a2 a3 a4 a5 => ks.1 (((a0, ()), (a1, ()), (), (), (), (a2, ()), ()), ((a3, ()), (a4, ()), a5, ()))) d.1.1.1 d.1.2.1.1 d.1.2.2.2.2.2.1.1 d.1.2.2.2.2.2.2.2.1.1 d.2.1.1 d.2.2.1.1 d.2.2.2.1 d.2.2.2.2.1.1
abbrev zq1vo (β : Type) := t8y → Int → Int → zqi → zq4 → t6y → Option β
abbrev zq1vp (β : Type) := t8y → Int → Int → Bool → zqi → zq4 → t6y → t0y → Option β
abbrev zq1vq := {β : Type} → zq1vo β → zq1vp β
noncomputable def zq1vr : Pc := ⟨117, 0, codeAt 1631 (loopBody zq1vh.c), ⟨0, [2, 3, 4, 5, 9, 10, 11, 64], [b26y, b21y, b23y, b27y, b45y, b21y, b38y, b25y], [b29y, b41y, .row 3 (.int .i64), b53y]⟩, [(.normal, ⟨0, [2, 3, 4, 5, 9, 10], [b26y, b21y, b23y, b27y, b45y, b21y], [b29y, b41y, .row 3 (.int .i64)]⟩)]⟩
@[reducible] def zq1vs (p : zq1vq) : zq1vr.G := fun d ks => p (fun a0 a1 a2 a3 a4 a5 => ks.1 (((a0, ()), (a1, ()), (), (), (), (a2, ()), ()), ((a3, ()), (a4, ()), a5, ()))) d.1.1.1 d.1.2.1.1 d.1.2.2.2.2.2.1.1 d.1.2.2.2.2.2.2.2.1.1 d.2.1.1 d.2.2.1.1 d.2.2.2.1 d.2.2.2.2.1.1
abbrev zq1vt (β : Type) := t8y → Int → Int → zqi → zq4 → t6y → Option β
abbrev zq1vu (β : Type) := t8y → Int → Int → Bool → zqi → zq4 → t6y → t0y → Option β
abbrev zq1vv := {β : Type} → zq1vt β → zq1vu β
noncomputable def zq1vw : Pc := ⟨117, 0, codeAt 407 (loopBody zq1vh.c), ⟨0, [2, 3, 4, 5, 9, 10, 11, 41], [b26y, b21y, b23y, b27y, b45y, b21y, b38y, b25y], [b29y, b41y, .row 3 (.int .i64), b53y]⟩, [(.normal, ⟨0, [2, 3, 4, 5, 9, 10], [b26y, b21y, b23y, b27y, b45y, b21y], [b29y, b41y, .row 3 (.int .i64)]⟩)]⟩
@[reducible] def zq1vx (p : zq1vv) : zq1vw.G := fun d ks => p (fun a0 a1 a2 a3 a4 a5 => ks.1 (((a0, ()), (a1, ()), (), (), (), (a2, ()), ()), ((a3, ()), (a4, ()), a5, ()))) d.1.1.1 d.1.2.1.1 d.1.2.2.2.2.2.1.1 d.1.2.2.2.2.2.2.2.1.1 d.2.1.1 d.2.2.1.1 d.2.2.2.1 d.2.2.2.2.1.1
abbrev zq1vy (β : Type) := t8y → Int → Int → zqi → zq4 → t6y → Option β
abbrev zq1vz (β : Type) := t8y → Int → Int → Bool → zqi → zq4 → t6y → t0y → Option β
abbrev zq1w0 := {β : Type} → zq1vy β → zq1vz β
noncomputable def zq1w1 : Pc := ⟨117, 0, codeAt 101 (loopBody zq1vh.c), ⟨0, [2, 3, 4, 5, 9, 10, 11, 24], [b26y, b21y, b23y, b27y, b45y, b21y, b38y, b25y], [b29y, b41y, .row 3 (.int .i64), b53y]⟩, [(.normal, ⟨0, [2, 3, 4, 5, 9, 10], [b26y, b21y, b23y, b27y, b45y, b21y], [b29y, b41y, .row 3 (.int .i64)]⟩)]⟩
@[reducible] def zq1w2 (p : zq1w0) : zq1w1.G := fun d ks => p (fun a0 a1 a2 a3 a4 a5 => ks.1 (((a0, ()), (a1, ()), (), (), (), (a2, ()), ()), ((a3, ()), (a4, ()), a5, ()))) d.1.1.1 d.1.2.1.1 d.1.2.2.2.2.2.1.1 d.1.2.2.2.2.2.2.2.1.1 d.2.1.1 d.2.2.1.1 d.2.2.2.1 d.2.2.2.2.1.1
section
variable (zq21s : zq1v4) (zqxt : zq44) (zq1oo : zq9j)
@[reducible] def zq1w3 : Ctx := cx [(88, .spec (zq1v5 zq21s)), (37, .spec (zq45 zqxt)), (53, .spec (zq9k zq1oo))]
def zq1w4 {β : Type} (rec : zq1vk β) (k1 : zq1vj β) : zq1vk β := fun l at_ i_ k_ c b out x =>
 cond (decide (0 ≤ x.2) && decide (x.2 < (List.length b.1 : Int)))
 (let e : t3y := List.getD b.1 (Int.toNat x.2) (([] : List UInt8), ([] : List Int));
 cond (decide (k_ < (List.length e.2 : Int)))
 (cond (decide (0 ≤ x.2) && decide (x.2 < (List.length b.1 : Int)))
 (let e2 : t3y := List.getD b.1 (Int.toNat x.2) (([] : List UInt8), ([] : List Int));
 cond (decide (0 ≤ k_) && decide (k_ < (List.length e2.2 : Int)))
 (let e3 : Int := List.getD e2.2 (Int.toNat k_) (0 : Int);
 zqxt e3 (0 : Int) (IntKind.i64.wrap ((List.length c.2.1 : Int) - (1 : Int))) (fun (rIn : Bool) =>
 cond rIn
 (cond (decide (0 ≤ x.2) && decide (x.2 < (List.length b.1 : Int)))
 (let e4 : t3y := List.getD b.1 (Int.toNat x.2) (([] : List UInt8), ([] : List Int));
 cond (decide (0 ≤ k_) && decide (k_ < (List.length e4.2 : Int)))
 (let e5 : Int := List.getD e4.2 (Int.toNat k_) (0 : Int);
 zq1oo out e5 (fun (lrWith : List Int) =>
 let k_2 : Int := (IntKind.i64.wrap (k_ + (1 : Int)));
 rec l at_ i_ k_2 c b lrWith x))
 none)
 none)
 (let k_2 : Int := (IntKind.i64.wrap (k_ + (1 : Int)));
 rec l at_ i_ k_2 c b out x)))
 none)
 none)
 (k1 l at_ i_ c b out))
 none
def zq1w5 {β : Type} (i : Nat) (k1 : zq1vj β) := lp8 (fun r => zq1w4 zqxt zq1oo r k1) none i
theorem zq1w6 (hΓ : GO (zq1w3 zq21s zqxt zq1oo)) (i : Nat) : OK zq1vm (zq1vn (zq1w5 zqxt zq1oo i)) :=
 pcL mixed (zq1w3 zq21s zqxt zq1oo) tab_ok hΓ (G := fun i => @fun β d ks => zq1vn (zq1w5 zqxt zq1oo i) d ks) (pick1 []) (by kernel_rfl) rfl (by kernel_rfl) CutsOk_nil (fun _ _ => rfl) (fun _ _ _ _ => by kernel_rfl) i
def zq1w7 (p1 : zq1vl) {β : Type} (k1 : zq1vo β) : zq1vp β := fun l at_ i_ t64 c b out x =>
 cond t64
 (p1 (fun (l2 : List t0y) (at_2 : Int) (i_2 : Int) (c2 : zqi) (b2 : zq4) (out2 : List Int) =>
 k1 l2 at_2 i_2 c2 b2 out2) l at_ i_ (0 : Int) c b out x)
 (k1 l at_ i_ c b out)
def zq1w8 (p1 : zq1vl) {β : Type} (k1 : zq1vo β) : zq1vp β := zq1w7 p1 k1
theorem zq1w9 (hΓ : GO (zq1w3 zq21s zqxt zq1oo)) (p1 : zq1vl) (hp1 : OK zq1vm (zq1vn p1)) : OK zq1vr (zq1vs (zq1w8 p1)) :=
 pcE mixed (zq1w3 zq21s zqxt zq1oo) tab_ok hΓ 1631 (pick1 [(13050, zq1vm.cut (zq1vn p1))]) (by kernel_rfl) (CutsOk_cons (by kernel_rfl) rfl hp1 CutsOk_nil) (fun _ _ => by kernel_rfl)
def zq1wa (p2 : zq1vq) {β : Type} (k1 : zq1vt β) : zq1vu β := fun l at_ i_ t41 c b out x =>
 cond t41
 (zq21s c x.2 at_ (fun (rWho : Int) =>
 cond (decide ((0 : Int) ≤ rWho))
 (zq1oo out rWho (fun (lrWith : List Int) =>
 k1 l at_ i_ c b lrWith))
 (k1 l at_ i_ c b out)))
 (cond (decide (x.1 = (2 : Int)))
 (zqxt x.2 (0 : Int) (IntKind.i64.wrap ((List.length b.1 : Int) - (1 : Int))) (fun (rIn : Bool) =>
 p2 (fun (l2 : List t0y) (at_2 : Int) (i_2 : Int) (c2 : zqi) (b2 : zq4) (out2 : List Int) =>
 k1 l2 at_2 i_2 c2 b2 out2) l at_ i_ rIn c b out x))
 (p2 (fun (l2 : List t0y) (at_2 : Int) (i_2 : Int) (c2 : zqi) (b2 : zq4) (out2 : List Int) =>
 k1 l2 at_2 i_2 c2 b2 out2) l at_ i_ false c b out x))
def zq1wb (p2 : zq1vq) {β : Type} (k1 : zq1vt β) : zq1vu β := zq1wa zq21s zqxt zq1oo p2 k1
theorem zq1wc (hΓ : GO (zq1w3 zq21s zqxt zq1oo)) (p2 : zq1vq) (hp2 : OK zq1vr (zq1vs p2)) : OK zq1vw (zq1vx (zq1wb zq21s zqxt zq1oo p2)) :=
 pcE mixed (zq1w3 zq21s zqxt zq1oo) tab_ok hΓ 407 (pick1 [(1631, zq1vr.cut (zq1vs p2))]) (by kernel_rfl) (CutsOk_cons (by kernel_rfl) rfl hp2 CutsOk_nil) (fun _ _ => by kernel_rfl)
def zq1wd (p3 : zq1vv) {β : Type} (k1 : zq1vy β) : zq1vz β := fun l at_ i_ t24 c b out x =>
 cond t24
 (zq1oo out x.2 (fun (lrWith : List Int) =>
 k1 l at_ i_ c b lrWith))
 (cond (decide (x.1 = (1 : Int)))
 (zqxt x.2 (0 : Int) (IntKind.i64.wrap ((List.length c.2.2.2 : Int) - (1 : Int))) (fun (rIn : Bool) =>
 p3 (fun (l2 : List t0y) (at_2 : Int) (i_2 : Int) (c2 : zqi) (b2 : zq4) (out2 : List Int) =>
 k1 l2 at_2 i_2 c2 b2 out2) l at_ i_ rIn c b out x))
 (p3 (fun (l2 : List t0y) (at_2 : Int) (i_2 : Int) (c2 : zqi) (b2 : zq4) (out2 : List Int) =>
 k1 l2 at_2 i_2 c2 b2 out2) l at_ i_ false c b out x))
def zq1we (p3 : zq1vv) {β : Type} (k1 : zq1vy β) : zq1vz β := zq1wd zqxt zq1oo p3 k1
theorem zq1wf (hΓ : GO (zq1w3 zq21s zqxt zq1oo)) (p3 : zq1vv) (hp3 : OK zq1vw (zq1vx p3)) : OK zq1w1 (zq1w2 (zq1we zqxt zq1oo p3)) :=
 pcE mixed (zq1w3 zq21s zqxt zq1oo) tab_ok hΓ 101 (pick1 [(407, zq1vw.cut (zq1vx p3))]) (by kernel_rfl) (CutsOk_cons (by kernel_rfl) rfl hp3 CutsOk_nil) (fun _ _ => by kernel_rfl)
def zq1wg (p4 : zq1w0) {β : Type} (rec : zq1vf β) (k1 : zq1ve β) : zq1vf β := fun l at_ i_ c b out =>
 cond (decide (i_ < (List.length l : Int)))
 (cond (decide (0 ≤ i_) && decide (i_ < (List.length l : Int)))
 (let e : t0y := List.getD l (Int.toNat i_) ((0 : Int), (0 : Int));
 cond (decide (e.1 = (0 : Int)))
 (zqxt e.2 (0 : Int) (IntKind.i64.wrap ((List.length c.2.1 : Int) - (1 : Int))) (fun (rIn : Bool) =>
 p4 (fun (l2 : List t0y) (at_2 : Int) (i_2 : Int) (c2 : zqi) (b2 : zq4) (out2 : List Int) =>
 let i_3 : Int := (IntKind.i64.wrap (i_2 + (1 : Int)));
 rec l2 at_2 i_3 c2 b2 out2) l at_ i_ rIn c b out e))
 (p4 (fun (l2 : List t0y) (at_2 : Int) (i_2 : Int) (c2 : zqi) (b2 : zq4) (out2 : List Int) =>
 let i_3 : Int := (IntKind.i64.wrap (i_2 + (1 : Int)));
 rec l2 at_2 i_3 c2 b2 out2) l at_ i_ false c b out e))
 none)
 (k1 out)
def zq1wh (p4 : zq1w0) {β : Type} (i : Nat) (k1 : zq1ve β) := lp6 (fun r => zq1wg zqxt p4 r k1) none i
theorem zq1wi (hΓ : GO (zq1w3 zq21s zqxt zq1oo)) (p4 : zq1w0) (hp4 : OK zq1w1 (zq1w2 p4)) (i : Nat) : OK zq1vh (zq1vi (zq1wh zqxt p4 i)) :=
 pcL mixed (zq1w3 zq21s zqxt zq1oo) tab_ok hΓ (G := fun i => @fun β d ks => zq1vi (zq1wh zqxt p4 i) d ks) (pick1 [(101, zq1w1.cut (zq1w2 p4))]) (by kernel_rfl) rfl (by kernel_rfl) (CutsOk_cons (by kernel_rfl) rfl hp4 CutsOk_nil) (fun _ _ => rfl) (fun _ _ _ _ => by kernel_rfl) i
def zq1wj (p5 : zq1vg) : zq1vc := fun c b l at_ k =>
 p5 (fun (out : List Int) =>
 k out) l at_ (0 : Int) c b ([] : List Int)
theorem zq1wk (hΓ : GO (zq1w3 zq21s zqxt zq1oo)) (p5 : zq1vg) (hp5 : OK zq1vh (zq1vi p5)) : SpecOk Tryz.prog 82 (zq1vd (zq1wj p5)) :=
 pcS mixed (zq1w3 zq21s zqxt zq1oo) tab_ok hΓ (pick1 [(58, zq1vh.cut (zq1vi p5))]) [.tmp 8] Tryz.func82 (by kernel_rfl) (by kernel_rfl) (by kernel_rfl) (by kernel_rfl) (CutsOk_cons (by kernel_rfl) rfl hp5 CutsOk_nil) (fun _ _ => by kernel_rfl)
end
theorem zq1wlΓ : GO (zq1w3 zq1va zq4a zqab) := (ΓOk_cons zq1vb (ΓOk_cons zq4b (ΓOk_cons zqac ΓOk_nil)))
def zq1wm (m : Nat) : zq1vl := zq1w5 zq4a zqab m
theorem zq1wn {β : Type} (i : Nat) (k1) : zq1wm (β := β) (i + 1) k1 = zq1w4 zq4a zqab (zq1wm i k1) k1 := rfl
def zq1wo : zq1vl := zq1wm fuel
theorem zq1wp : OK zq1vm (zq1vn zq1wo) := zq1w6 zq1va zq4a zqab zq1wlΓ fuel
def zq1wq : zq1vq := zq1w8 zq1wo
theorem zq1wr : OK zq1vr (zq1vs zq1wq) := zq1w9 zq1va zq4a zqab zq1wlΓ zq1wo zq1wp
def zq1ws : zq1vv := zq1wb zq1va zq4a zqab zq1wq
theorem zq1wt : OK zq1vw (zq1vx zq1ws) := zq1wc zq1va zq4a zqab zq1wlΓ zq1wq zq1wr
def zq1wu : zq1w0 := zq1we zq4a zqab zq1ws
theorem zq1wv : OK zq1w1 (zq1w2 zq1wu) := zq1wf zq1va zq4a zqab zq1wlΓ zq1ws zq1wt
def zq1ww (m : Nat) : zq1vg := zq1wh zq4a zq1wu m
theorem zq1wx {β : Type} (i : Nat) (k1) : zq1ww (β := β) (i + 1) k1 = zq1wg zq4a zq1wu (zq1ww i k1) k1 := rfl
def zq1wy : zq1vg := zq1ww fuel
theorem zq1wz : OK zq1vh (zq1vi zq1wy) := zq1wi zq1va zq4a zqab zq1wlΓ zq1wu zq1wv fuel
def zq1x0 : zq1vc := zq1wj zq1wy
theorem zq1x1 : SpecOk Tryz.prog 82 (zq1vd zq1x0) := zq1wk zq1va zq4a zqab zq1wlΓ zq1wy zq1wz
abbrev zq1x2 := {β : Type} → zqi → zq4 → zqs → (zqs → Int → Option β) → Option β
def zq1x3 (c : zq1x2) : Spec :=
 ⟨[b36y, b59y, b43y], [], [b43y, b21y], [], fun x k => c x.1.1.1 x.1.2.1.1 x.1.2.2.1.1 (fun r0 r1 => k (((r0, ()), (r1, ()), ()), ()))⟩
abbrev zq1x4 (β : Type) := Int → zqs → Int → Int → Int → Int → Int → Int → Int → Int → Int → Int → Int → Int → Int → Int → Int → Int → Int → Int → Int → Int → Int → Int → zq2 → Int → Int → (List t2y) → t6y → t6y → (List t2y) → t6y → t6y → t6y → Option β
abbrev zq1x5 (β : Type) := Int → Int → Int → zqi → zqs → Int → Int → Int → Int → Int → Int → Int → Int → Int → Int → Int → Int → Int → Int → Int → Int → Int → Int → Int → Int → Int → Int → zq2 → Int → Int → t6y → (List t2y) → t6y → t6y → (List t2y) → t6y → t6y → t6y → Option β
abbrev zq1x6 := {β : Type} → zq1x4 β → zq1x5 β
noncomputable def zq1x7 : Pc := ⟨136, 0, codeAt 131066 (bodyOf Tryz.f57), ⟨0, [3, 5, 6, 8, 10, 11, 12, 15, 16, 17], [b23y, b27y, b31y, b21y, b38y, b66y, b21y, (false, [.ptr 5 0]), (false, [.rowh 6]), b21y], [b29y, b28y, .cells 50 [.data (.int .i64), .data (.int .i64), .data (.int .i64), .data (.int .i64), .data (.int .i64), .data (.int .i64), .data (.int .i64), .data (.int .i64), .data (.int .i64), .data (.int .i64), .data (.int .i64), .rowh 7, .rowh 8, .rowh 9], .cells 50 [.data (.int .i64), .data (.int .i64), .data (.int .i64), .data (.int .i64), .data (.int .i64), .data (.int .i64), .data (.int .i64), .data (.int .i64), .data (.int .i64), .data (.int .i64), .data (.int .i64), .rowh 10, .rowh 11, .rowh 12], .cells 109 [.data zq3], .cells 65 [.data (.int .i64), .data (.int .i64), .rowh 13], .row 3 (.int .i64), .row 65 (.prod (.int .i64) (.prod (.int .i64) (.slice (.int .i64)))), .row 3 (.int .i64), .row 3 (.int .i64), .row 65 (.prod (.int .i64) (.prod (.int .i64) (.slice (.int .i64)))), .row 3 (.int .i64), .row 3 (.int .i64), .row 3 (.int .i64)]⟩, [(.exit 0, ⟨0, [5, 6, 10, 11, 12, 15], [b23y, b27y, b31y, b38y, b21y, b66y], [b28y, b37y, .cells 50 [.data (.int .i64), .data (.int .i64), .data (.int .i64), .data (.int .i64), .data (.int .i64), .data (.int .i64), .data (.int .i64), .data (.int .i64), .data (.int .i64), .data (.int .i64), .data (.int .i64), .rowh 8, .rowh 9, .rowh 10], .cells 109 [.data zq3], .cells 65 [.data (.int .i64), .data (.int .i64), .rowh 11], .row 65 (.prod (.int .i64) (.prod (.int .i64) (.slice (.int .i64)))), .row 3 (.int .i64), .row 3 (.int .i64), .row 65 (.prod (.int .i64) (.prod (.int .i64) (.slice (.int .i64)))), .row 3 (.int .i64), .row 3 (.int .i64), .row 3 (.int .i64)]⟩)]⟩
@[reducible] def zq1x8 (p : zq1x6) : zq1x7.G := fun d ks => p (fun a0 a1 a2 a3 a4 a5 a6 a7 a8 a9 a10 a11 a12 a13 a14 a15 a16 a17 a18 a19 a20 a21 a22 a23 a24 a25 a26 a27 a28 a29 a30 a31 a32 a33 => ks.1 (((), (), (), (), (a0, ()), (), ()), ((a1, ()), (a2, a3, a4, a5, a6, a7, a8, a9, a10, a11, a12, ()), (a13, a14, a15, a16, a17, a18, a19, a20, a21, a22, a23, ()), (a24, ()), (a25, a26, ()), a27, a28, a29, a30, a31, a32, a33, ()))) d.1.2.2.2.1.1 d.1.2.2.2.2.2.2.1.1 d.1.2.2.2.2.2.2.2.2.2.1.1 d.2.1.1 d.2.2.1.1 d.2.2.2.1.1 d.2.2.2.1.2.1 d.2.2.2.1.2.2.1 d.2.2.2.1.2.2.2.1 d.2.2.2.1.2.2.2.2.1 d.2.2.2.1.2.2.2.2.2.1 d.2.2.2.1.2.2.2.2.2.2.1 d.2.2.2.1.2.2.2.2.2.2.2.1 d.2.2.2.1.2.2.2.2.2.2.2.2.1 d.2.2.2.1.2.2.2.2.2.2.2.2.2.1 d.2.2.2.1.2.2.2.2.2.2.2.2.2.2.1 d.2.2.2.2.1.1 d.2.2.2.2.1.2.1 d.2.2.2.2.1.2.2.1 d.2.2.2.2.1.2.2.2.1 d.2.2.2.2.1.2.2.2.2.1 d.2.2.2.2.1.2.2.2.2.2.1 d.2.2.2.2.1.2.2.2.2.2.2.1 d.2.2.2.2.1.2.2.2.2.2.2.2.1 d.2.2.2.2.1.2.2.2.2.2.2.2.2.1 d.2.2.2.2.1.2.2.2.2.2.2.2.2.2.1 d.2.2.2.2.1.2.2.2.2.2.2.2.2.2.2.1 d.2.2.2.2.2.1.1 d.2.2.2.2.2.2.1.1 d.2.2.2.2.2.2.1.2.1 d.2.2.2.2.2.2.2.1 d.2.2.2.2.2.2.2.2.1 d.2.2.2.2.2.2.2.2.2.1 d.2.2.2.2.2.2.2.2.2.2.1 d.2.2.2.2.2.2.2.2.2.2.2.1 d.2.2.2.2.2.2.2.2.2.2.2.2.1 d.2.2.2.2.2.2.2.2.2.2.2.2.2.1 d.2.2.2.2.2.2.2.2.2.2.2.2.2.2.1
section
variable (zq21t : zq1tn) (zq21u : zqjm) (zq21v : zq1vc) (zq1or : zqw5) (zq1os : zqad) (zqxz : zqax)
@[reducible] def zq1x9 : Ctx := ⟨look tab, pick1 [(83, .spec (zq1to zq21t)), (81, .spec (zqjn zq21u)), (82, .spec (zq1vd zq21v)), (54, .spec (zqw6 zq1or)), (55, .spec (zqae zq1os)), (56, .spec (zqay zqxz))], false, false, false, false, [(65, [0, 1, 2])]⟩
def zq1xa {β : Type} (rec : zq1x5 β) (k1 : zq1x4 β) : zq1x5 β := fun at_ i_ k_ c p_ t6 t62 t63 t64 t65 t66 t67 t68 t69 t610 t611 out out2 out3 out4 out5 out6 out7 out8 out9 out10 out11 pol x x2 l b7_ b8_ b9_ b10_ b11_ b12_ b13_ =>
 cond (decide (k_ < (List.length l : Int)))
 (cond (decide (0 ≤ k_) && decide (k_ < (List.length l : Int)))
 (cond (decide (0 ≤ i_) && decide (i_ < (List.length pol.2.1 : Int)))
 (let e : zq0 := List.getD pol.2.1 (Int.toNat i_) ((0 : Int), (false, ([] : List t0y)));
 zq21t c (List.getD l (Int.toNat k_) (0 : Int)) at_ e.2.1 (fun (rReachable : Bool) =>
 cond rReachable
 (cond (decide (0 ≤ k_) && decide (k_ < (List.length l : Int)))
 (let l2 : List Int := ([(List.getD l (Int.toNat k_) (0 : Int))] : List Int);
 cond (decide ((List.length b13_ + List.length l2) * 8 ≤ roomMax))
 (let l3 : List Int := (b13_ ++ l2);
 let k_2 : Int := (IntKind.i64.wrap (k_ + (1 : Int)));
 rec at_ i_ k_2 c p_ t6 t62 t63 t64 t65 t66 t67 t68 t69 t610 t611 out out2 out3 out4 out5 out6 out7 out8 out9 out10 out11 pol x x2 l b7_ b8_ b9_ b10_ b11_ b12_ l3)
 none)
 none)
 (let k_2 : Int := (IntKind.i64.wrap (k_ + (1 : Int)));
 rec at_ i_ k_2 c p_ t6 t62 t63 t64 t65 t66 t67 t68 t69 t610 t611 out out2 out3 out4 out5 out6 out7 out8 out9 out10 out11 pol x x2 l b7_ b8_ b9_ b10_ b11_ b12_ b13_)))
 none)
 none)
 (k1 i_ p_ t6 t62 t63 t64 t65 t66 t67 t68 t69 t610 t611 out out2 out3 out4 out5 out6 out7 out8 out9 out10 out11 pol x x2 b7_ b8_ b9_ b10_ b11_ b12_ b13_)
def zq1xb {β : Type} (i : Nat) (k1 : zq1x4 β) := lp38 (fun r => zq1xa zq21t r k1) none i
theorem zq1xc (hΓ : GO (zq1x9 zq21t zq21u zq21v zq1or zq1os zqxz)) (i : Nat) : OK zq1x7 (zq1x8 (zq1xb zq21t i)) :=
 pcL mixed (zq1x9 zq21t zq21u zq21v zq1or zq1os zqxz) tab_ok hΓ (G := fun i => @fun β d ks => zq1x8 (zq1xb zq21t i) d ks) (pick1 []) (by kernel_rfl) rfl (by kernel_rfl) CutsOk_nil (fun _ _ => rfl) (fun _ _ _ _ => by kernel_rfl) i
def zq1xd (p1 : zq1x6) : zq1x2 := fun c b p_ k =>
 zq1or b p_ (fun (rCheck : Bool) =>
 cond (!rCheck)
 (k zq17 (8 : Int))
 (zqxz p_ (fun (rDue : Int) (rDue2 : Bool) =>
 cond (!rDue2)
 (k zq17 (9 : Int))
 (cond (decide ((200 : Int) ≤ (List.length p_.2.2.2.2.2.2.2.2.2.2.2.1 : Int)))
 (k zq17 (5 : Int))
 (zq1os p_ (fun (rCopy : Int) (rCopy2 : Int) (rCopy3 : Int) (rCopy4 : Int) (rCopy5 : Int) (rCopy6 : Int) (rCopy7 : Int) (rCopy8 : Int) (rCopy9 : Int) (rCopy10 : Int) (rCopy11 : Int) (lrCopy : List t2y) (lrCopy2 : List Int) (lrCopy3 : List Int) =>
 cond (decide (p_.2.2.2.2.2.1 = (2 : Int)))
 (k (rCopy, (rCopy2, (rCopy3, (rCopy4, (rDue, ((0 : Int), (rCopy7, (rCopy8, ((if p_.2.2.2.2.2.2.2.2.1 > rDue then p_.2.2.2.2.2.2.2.2.1 else rDue), (rCopy10, (rCopy11, (lrCopy, (lrCopy2, lrCopy3))))))))))))) (0 : Int))
 (cond (decide (0 ≤ p_.2.1) && decide (p_.2.1 < (List.length b.2 : Int)))
 (let e : zq2 := List.getD b.2 (Int.toNat p_.2.1) (([] : List UInt8), (([] : List zq0), (0 : Int)));
 zq21u e p_.2.2.2.1 (fun (rPart : Int) (rPart2 : Int) (rPart3 : Bool) =>
 cond (!rPart3)
 (k (rCopy, (rCopy2, (rCopy3, (rCopy4, (rCopy5, ((3 : Int), (rCopy7, (rCopy8, ((if p_.2.2.2.2.2.2.2.2.1 > rDue then p_.2.2.2.2.2.2.2.2.1 else rDue), (rCopy10, (rCopy11, (lrCopy, (lrCopy2, lrCopy3))))))))))))) (0 : Int))
 (cond (decide (0 ≤ rPart) && decide (rPart < (List.length e.2.1 : Int)))
 (let e2 : zq0 := List.getD e.2.1 (Int.toNat rPart) ((0 : Int), (false, ([] : List t0y)));
 zq21v c b e2.2.2 rDue (fun (lrPeople : List Int) =>
 p1 (fun (i_ : Int) (p_2 : zqs) (t6 : Int) (t62 : Int) (t63 : Int) (t64 : Int) (t65 : Int) (t66 : Int) (t67 : Int) (t68 : Int) (t69 : Int) (t610 : Int) (t611 : Int) (out : Int) (out2 : Int) (out3 : Int) (out4 : Int) (out5 : Int) (out6 : Int) (out7 : Int) (out8 : Int) (out9 : Int) (out10 : Int) (out11 : Int) (pol : zq2) (x : Int) (x2 : Int) (b5_ : List t2y) (b6_ : List Int) (b7_ : List Int) (b8_ : List t2y) (b9_ : List Int) (b10_ : List Int) (b11_ : List Int) =>
 let l : List t2y := ([(x, (x2, b11_))] : List t2y);
 cond (decide ((List.length b8_ + List.length l) * 40 ≤ roomMax))
 (let l2 : List t2y := (b8_ ++ l);
 cond (decide ((0 : Int) < (List.length b11_ : Int)))
 (cond (decide (0 ≤ i_) && decide (i_ < (List.length pol.2.1 : Int)))
 (let e3 : zq0 := List.getD pol.2.1 (Int.toNat i_) ((0 : Int), (false, ([] : List t0y)));
 k (out, (out2, (out3, ((IntKind.i64.wrap (p_2.2.2.2.1 + (1 : Int))), ((IntKind.i64.wrap (out5 + e3.1)), (out6, (out7, (out8, (out9, (out10, (out11, (l2, (([] : List Int), b10_))))))))))))) (0 : Int))
 none)
 (k (out, (out2, (out3, ((IntKind.i64.wrap (p_2.2.2.2.1 + (1 : Int))), (out5, (out6, (out7, (out8, (out9, (out10, (out11, (l2, (([] : List Int), b10_))))))))))))) (0 : Int)))
 none) rDue rPart (0 : Int) c p_ (0 : Int) (0 : Int) (0 : Int) (0 : Int) (0 : Int) (0 : Int) (0 : Int) (0 : Int) (0 : Int) (0 : Int) (0 : Int) rCopy rCopy2 rCopy3 rCopy4 rCopy5 rCopy6 rCopy7 rCopy8 (if p_.2.2.2.2.2.2.2.2.1 > rDue then p_.2.2.2.2.2.2.2.2.1 else rDue) rCopy10 rCopy11 e p_.2.2.2.1 rDue lrPeople ([] : List t2y) ([] : List Int) ([] : List Int) lrCopy lrCopy2 lrCopy3 ([] : List Int)))
 none)))
 none)))))))
theorem zq1xe (hΓ : GO (zq1x9 zq21t zq21u zq21v zq1or zq1os zqxz)) (p1 : zq1x6) (hp1 : OK zq1x7 (zq1x8 p1)) : SpecOk Tryz.prog 57 (zq1x3 (zq1xd zq21u zq21v zq1or zq1os zqxz p1)) :=
 pcS mixed (zq1x9 zq21t zq21u zq21v zq1or zq1os zqxz) tab_ok hΓ (pick1 [(131066, zq1x7.cut (zq1x8 p1))]) [.cell 6 50, .tmp 7] Tryz.func57 (by kernel_rfl) (by kernel_rfl) (by kernel_rfl) (by kernel_rfl) (CutsOk_cons (by kernel_rfl) rfl hp1 CutsOk_nil) (fun _ _ => by kernel_rfl)
end
theorem zq1xfΓ : GO (zq1x9 zq1tt zqjs zq1x0 zqwo zqav zqb3) := (ΓOk_cons zq1tu (ΓOk_cons zqjt (ΓOk_cons zq1x1 (ΓOk_cons zqwp (ΓOk_cons zqaw (ΓOk_cons zqb4 ΓOk_nil))))))
def zq1xg (m : Nat) : zq1x6 := zq1xb zq1tt m
theorem zq1xh {β : Type} (i : Nat) (k1) : zq1xg (β := β) (i + 1) k1 = zq1xa zq1tt (zq1xg i k1) k1 := rfl
def zq1xi : zq1x6 := zq1xg fuel
theorem zq1xj : OK zq1x7 (zq1x8 zq1xi) := zq1xc zq1tt zqjs zq1x0 zqwo zqav zqb3 zq1xfΓ fuel
def zq1xk : zq1x2 := zq1xd zqjs zq1x0 zqwo zqav zqb3 zq1xi
theorem zq1xl : SpecOk Tryz.prog 57 (zq1x3 zq1xk) := zq1xe zq1tt zqjs zq1x0 zqwo zqav zqb3 zq1xfΓ zq1xi zq1xj
abbrev zq1xm := {β : Type} → zqi → zq4 → zqs → Int → (zqs → Int → Option β) → Option β
def zq1xn (c : zq1xm) : Spec :=
 ⟨[b36y, b59y, b43y, b21y], [], [b43y, b21y], [], fun x k => c x.1.1.1 x.1.2.1.1 x.1.2.2.1.1 x.1.2.2.2.1.1 (fun r0 r1 => k (((r0, ()), (r1, ()), ()), ()))⟩
abbrev zq1xo (β : Type) := Int → zqs → Option β
abbrev zq1xp (β : Type) := Int → zqi → zq4 → zqs → zqs → Option β
abbrev zq1xq := {β : Type} → zq1xo β → zq1xp β
noncomputable def zq1xr : Pc := ⟨46, 0, codeAt 30 (bodyOf Tryz.f30), ⟨0, [3, 4, 5, 6, 8], [b21y, b23y, b27y, b31y, b38y], [b29y, b41y, b28y, b28y]⟩, [(.ret, ⟨0, [8, 9], [b23y, b21y], [b28y]⟩)]⟩
@[reducible] def zq1xs (p : zq1xq) : zq1xr.G := fun d ks => p (fun a0 a1 => ks.1 (((), (a0, ()), ()), ((a1, ()), ()))) d.1.1.1 d.2.1.1 d.2.2.1.1 d.2.2.2.1.1 d.2.2.2.2.1.1
section
variable (zq1or : zqw5) (zq1os : zqad) (zqxz : zqax) (zq21w : zq1x2)
@[reducible] def zq1xt : Ctx := cx [(54, .spec (zqw6 zq1or)), (55, .spec (zqae zq1os)), (56, .spec (zqay zqxz)), (57, .spec (zq1x3 zq21w))]
def zq1xu {β : Type} (rec : zq1xp β) (k1 : zq1xo β) : zq1xp β := fun now c b p_ t8 =>
 zqxz p_ (fun (rDue : Int) (rDue2 : Bool) =>
 cond (!rDue2)
 (k1 (0 : Int) p_)
 (cond (decide (now < rDue))
 (k1 (0 : Int) p_)
 (zq21w c b p_ (fun (rStep : zqs) (rStep2 : Int) =>
 cond (!decide (rStep2 = (0 : Int)))
 (k1 rStep2 zq17)
 (rec now c b rStep t8)))))
def zq1xv {β : Type} (i : Nat) (k1 : zq1xo β) := lp5 (fun r => zq1xu zqxz zq21w r k1) none i
theorem zq1xw (hΓ : GO (zq1xt zq1or zq1os zqxz zq21w)) (i : Nat) : OK zq1xr (zq1xs (zq1xv zqxz zq21w i)) :=
 pcL mixed (zq1xt zq1or zq1os zqxz zq21w) tab_ok hΓ (G := fun i => @fun β d ks => zq1xs (zq1xv zqxz zq21w i) d ks) (pick1 []) (by kernel_rfl) rfl (by kernel_rfl) CutsOk_nil (fun _ _ => rfl) (fun _ _ _ _ => by kernel_rfl) i
def zq1xx (p1 : zq1xq) : zq1xm := fun c b p_ now k =>
 zq1or b p_ (fun (rCheck : Bool) =>
 cond (!rCheck)
 (k zq17 (8 : Int))
 (zq1os p_ (fun (rCopy : Int) (rCopy2 : Int) (rCopy3 : Int) (rCopy4 : Int) (rCopy5 : Int) (rCopy6 : Int) (rCopy7 : Int) (rCopy8 : Int) (rCopy9 : Int) (rCopy10 : Int) (rCopy11 : Int) (lrCopy : List t2y) (lrCopy2 : List Int) (lrCopy3 : List Int) =>
 p1 (fun (t9 : Int) (t8 : zqs) =>
 k t8 t9) now c b (rCopy, (rCopy2, (rCopy3, (rCopy4, (rCopy5, (rCopy6, (rCopy7, (rCopy8, (rCopy9, (rCopy10, (rCopy11, (lrCopy, (lrCopy2, lrCopy3))))))))))))) zq17)))
theorem zq1xy (hΓ : GO (zq1xt zq1or zq1os zqxz zq21w)) (p1 : zq1xq) (hp1 : OK zq1xr (zq1xs p1)) : SpecOk Tryz.prog 30 (zq1xn (zq1xx zq1or zq1os p1)) :=
 pcS mixed (zq1xt zq1or zq1os zqxz zq21w) tab_ok hΓ (pick1 [(30, zq1xr.cut (zq1xs p1))]) [.cell 8 50, .tmp 9] Tryz.func30 (by kernel_rfl) (by kernel_rfl) (by kernel_rfl) (by kernel_rfl) (CutsOk_cons (by kernel_rfl) rfl hp1 CutsOk_nil) (fun _ _ => by kernel_rfl)
end
theorem zq1xzΓ : GO (zq1xt zqwo zqav zqb3 zq1xk) := (ΓOk_cons zqwp (ΓOk_cons zqaw (ΓOk_cons zqb4 (ΓOk_cons zq1xl ΓOk_nil))))
def zq1y0 (m : Nat) : zq1xq := zq1xv zqb3 zq1xk m
theorem zq1y1 {β : Type} (i : Nat) (k1) : zq1y0 (β := β) (i + 1) k1 = zq1xu zqb3 zq1xk (zq1y0 i k1) k1 := rfl
def zq1y2 : zq1xq := zq1y0 fuel
theorem zq1y3 : OK zq1xr (zq1xs zq1y2) := zq1xw zqwo zqav zqb3 zq1xk zq1xzΓ fuel
def zq1y4 : zq1xm := zq1xx zqwo zqav zq1y2
theorem zq1y5 : SpecOk Tryz.prog 30 (zq1xn zq1y4) := zq1xy zqwo zqav zqb3 zq1xk zq1xzΓ zq1y2 zq1y3
abbrev zq1y6 := {β : Type} → zqi → zq4 → Int → t1y → (zqs → Int → t1y → Option β) → Option β
def zq1y7 (c : zq1y6) : Spec :=
 ⟨[b23y, b36y, b59y, b21y], [b22y], [b43y, b21y], [b22y], fun x k => c x.1.2.1.1 x.1.2.2.1.1 x.1.2.2.2.1.1 x.2.1.1 (fun r0 r1 r2 => k (((r0, ()), (r1, ()), ()), ((r2, ()), ())))⟩
abbrev zq1y8 (β : Type) := Int → t1y → zqs → zqs → Option β
abbrev zq1y9 (β : Type) := Int → Int → t1y → zqi → zq4 → zqs → zqs → Option β
abbrev zq1ya := {β : Type} → zq1y8 β → zq1y9 β
noncomputable def zq1yb : Pc := ⟨95, 1, codeAt 250 (bodyOf Tryz.f11), ⟨1, [0, 5, 6, 8, 10, 11, 13], [b23y, b27y, b31y, b38y, b21y, b66y, b21y], [b22y, b29y, b41y, b28y, b28y]⟩, [(.exit 0, ⟨1, [8, 10, 11], [b27y, b21y, b31y], [b22y, b28y, b28y]⟩)]⟩
@[reducible] def zq1yc (p : zq1ya) : zq1yb.G := fun d ks => p (fun a0 a1 a2 a3 => ks.1 (((), (a0, ()), (), ()), ((a1, ()), (a2, ()), (a3, ()), ()))) d.1.2.2.2.2.1.1 d.1.2.2.2.2.2.2.1.1 d.2.1.1 d.2.2.1.1 d.2.2.2.1.1 d.2.2.2.2.1.1 d.2.2.2.2.2.1.1
abbrev zq1yd (β : Type) := Int → Int → t1y → zqi → zq4 → zqs → zqs → Option β
abbrev zq1ye (β : Type) := Int → Int → t1y → zqi → zq4 → zqs → zqs → Option β
abbrev zq1yf := {β : Type} → zq1yd β → zq1ye β
noncomputable def zq1yg : Pc := ⟨95, 1, codeAt 51 (loopBody zq1yb.c), ⟨1, [0, 5, 6, 8, 10, 11, 13], [b23y, b27y, b31y, b38y, b21y, b66y, b21y], [b22y, b29y, b41y, b28y, b28y]⟩, [(.normal, ⟨1, [0, 5, 6, 8, 10, 11, 13], [b23y, b27y, b31y, b38y, b21y, b66y, b21y], [b22y, b29y, b41y, b28y, b28y]⟩)]⟩
@[reducible] def zq1yh (p : zq1yf) : zq1yg.G := fun d ks => p (fun a0 a1 a2 a3 a4 a5 a6 => ks.1 (((), (), (), (), (a0, ()), (), (a1, ()), ()), ((a2, ()), (a3, ()), (a4, ()), (a5, ()), (a6, ()), ()))) d.1.2.2.2.2.1.1 d.1.2.2.2.2.2.2.1.1 d.2.1.1 d.2.2.1.1 d.2.2.2.1.1 d.2.2.2.2.1.1 d.2.2.2.2.2.1.1
section
variable (zq21x : zq3g) (zqxr : zq1p) (zqxs : zq2i) (zq21y : zq17b) (zqyj : zqv1) (zq21z : zq1xm)
@[reducible] def zq1yi : Ctx := cx [(32, .spec (zq3h zq21x)), (10, .spec (zq1q zqxr)), (19, .spec (zq2j zqxs)), (31, .spec (zq17c zq21y)), (29, .spec (zqv2 zqyj)), (30, .spec (zq1xn zq21z))]
def zq1yj {β : Type} (k1 : zq1yd β) : zq1ye β := fun now i_ d c b t8 p_ =>
 zqxr (9 : Int) d (fun (rNext : Int) (mrNext : t1y) =>
 zq21x (IntKind.i64.wrap ((1 : Int) + rNext)) p_.1 now mrNext (fun (rAnswer : t11y) (mrAnswer : t1y) =>
 zq21y c b p_ rAnswer (fun (rAnswer2 : zqs) (rAnswer3 : Int) =>
 cond (decide (rAnswer3 = (0 : Int)))
 (zqxr (3 : Int) mrAnswer (fun (rNext2 : Int) (mrNext2 : t1y) =>
 cond (decide ((0 : Int) < rNext2))
 (k1 now i_ mrNext2 c b t8 rAnswer2)
 (k1 now i_ mrNext2 c b t8 p_)))
 (k1 now i_ mrAnswer c b t8 p_))))
def zq1yk {β : Type} (k1 : zq1yd β) : zq1ye β := zq1yj zq21x zqxr zq21y k1
theorem zq1yl (hΓ : GO (zq1yi zq21x zqxr zqxs zq21y zqyj zq21z)) : OK zq1yg (zq1yh (zq1yk zq21x zqxr zq21y)) :=
 pcE mixed (zq1yi zq21x zqxr zqxs zq21y zqyj zq21z) tab_ok hΓ 51 (pick1 []) (by kernel_rfl) CutsOk_nil (fun _ _ => by kernel_rfl)
def zq1ym (p1 : zq1yf) {β : Type} (rec : zq1y9 β) (k1 : zq1y8 β) : zq1y9 β := fun now i_ d c b t8 p_ =>
 cond (decide ((0 : Int) < i_))
 (let l : List Int := ([(0 : Int), (1 : Int), (59 : Int), (60 : Int), (240 : Int), (600 : Int), (2000 : Int)] : List Int);
 zqxs l d (fun (rOne : Int) (mrOne : t1y) =>
 let now2 : Int := (IntKind.i64.wrap (now + rOne));
 zq21z c b p_ now2 (fun (rRun : zqs) (rRun2 : Int) =>
 cond (decide (rRun2 = (0 : Int)))
 (zqxr (8 : Int) mrOne (fun (rNext : Int) (mrNext : t1y) =>
 cond (decide ((0 : Int) < rNext))
 (p1 (fun (now3 : Int) (i_2 : Int) (d2 : t1y) (c2 : zqi) (b2 : zq4) (t82 : zqs) (p_2 : zqs) =>
 let i_3 : Int := (IntKind.i64.wrap (i_2 - (1 : Int)));
 rec now3 i_3 d2 c2 b2 t82 p_2) now2 i_ mrNext c b t8 rRun)
 (p1 (fun (now3 : Int) (i_2 : Int) (d2 : t1y) (c2 : zqi) (b2 : zq4) (t82 : zqs) (p_2 : zqs) =>
 let i_3 : Int := (IntKind.i64.wrap (i_2 - (1 : Int)));
 rec now3 i_3 d2 c2 b2 t82 p_2) now2 i_ mrNext c b t8 p_)))
 (p1 (fun (now3 : Int) (i_2 : Int) (d2 : t1y) (c2 : zqi) (b2 : zq4) (t82 : zqs) (p_2 : zqs) =>
 let i_3 : Int := (IntKind.i64.wrap (i_2 - (1 : Int)));
 rec now3 i_3 d2 c2 b2 t82 p_2) now2 i_ mrOne c b t8 p_))))
 (k1 now d t8 p_)
def zq1yn (p1 : zq1yf) {β : Type} (i : Nat) (k1 : zq1y8 β) := lp7 (fun r => zq1ym zqxr zqxs zq21z p1 r k1) none i
theorem zq1yo (hΓ : GO (zq1yi zq21x zqxr zqxs zq21y zqyj zq21z)) (p1 : zq1yf) (hp1 : OK zq1yg (zq1yh p1)) (i : Nat) : OK zq1yb (zq1yc (zq1yn zqxr zqxs zq21z p1 i)) :=
 pcL mixed (zq1yi zq21x zqxr zqxs zq21y zqyj zq21z) tab_ok hΓ (G := fun i => @fun β d ks => zq1yc (zq1yn zqxr zqxs zq21z p1 i) d ks) (pick1 [(51, zq1yg.cut (zq1yh p1))]) (by kernel_rfl) rfl (by kernel_rfl) (CutsOk_cons (by kernel_rfl) rfl hp1 CutsOk_nil) (fun _ _ => rfl) (fun _ _ _ _ => by kernel_rfl) i
def zq1yp (p2 : zq1ya) : zq1y6 := fun c b n d k =>
 let l : List Int := ([(0 : Int), (100 : Int), (3500 : Int)] : List Int);
 zqxs l d (fun (rOne : Int) (mrOne : t1y) =>
 let now : Int := (IntKind.i64.wrap ((864000 : Int) + rOne));
 zqxr (3 : Int) mrOne (fun (rNext : Int) (mrNext : t1y) =>
 zqxr (if (1 : Int) > (List.length b.2 : Int) then (1 : Int) else (List.length b.2 : Int)) mrNext (fun (rNext2 : Int) (mrNext2 : t1y) =>
 zqyj b (IntKind.i64.wrap ((1 : Int) + rNext)) rNext2 now (fun (rNew : zqs) (rNew2 : Int) =>
 cond (!decide (rNew2 = (0 : Int)))
 (k zq17 now mrNext2)
 (zqxr (IntKind.i64.wrap (n + (1 : Int))) mrNext2 (fun (rNext3 : Int) (mrNext3 : t1y) =>
 p2 (fun (now2 : Int) (b0_ : t1y) (t8 : zqs) (p_ : zqs) =>
 k p_ now2 b0_) now rNext3 mrNext3 c b zq17 rNew))))))
theorem zq1yq (hΓ : GO (zq1yi zq21x zqxr zqxs zq21y zqyj zq21z)) (p2 : zq1ya) (hp2 : OK zq1yb (zq1yc p2)) : SpecOk Tryz.prog 11 (zq1y7 (zq1yp zqxr zqxs zqyj p2)) :=
 pcS mixed (zq1yi zq21x zqxr zqxs zq21y zqyj zq21z) tab_ok hΓ (pick1 [(250, zq1yb.cut (zq1yc p2))]) [.cell 8 50, .tmp 9] Tryz.func11 (by kernel_rfl) (by kernel_rfl) (by kernel_rfl) (by kernel_rfl) (CutsOk_cons (by kernel_rfl) rfl hp2 CutsOk_nil) (fun _ _ => by kernel_rfl)
end
theorem zq1yrΓ : GO (zq1yi zq3m zq1v zq2o zq183 zqv7 zq1y4) := (ΓOk_cons zq3n (ΓOk_cons zq1w (ΓOk_cons zq2p (ΓOk_cons zq184 (ΓOk_cons zqv8 (ΓOk_cons zq1y5 ΓOk_nil))))))
def zq1ys : zq1yf := zq1yk zq3m zq1v zq183
theorem zq1yt : OK zq1yg (zq1yh zq1ys) := zq1yl zq3m zq1v zq2o zq183 zqv7 zq1y4 zq1yrΓ
def zq1yu (m : Nat) : zq1ya := zq1yn zq1v zq2o zq1y4 zq1ys m
theorem zq1yv {β : Type} (i : Nat) (k1) : zq1yu (β := β) (i + 1) k1 = zq1ym zq1v zq2o zq1y4 zq1ys (zq1yu i k1) k1 := rfl
def zq1yw : zq1ya := zq1yu fuel
theorem zq1yx : OK zq1yb (zq1yc zq1yw) := zq1yo zq3m zq1v zq2o zq183 zqv7 zq1y4 zq1yrΓ zq1ys zq1yt fuel
def zq1yy : zq1y6 := zq1yp zq1v zq2o zqv7 zq1yw
theorem zq1yz : SpecOk Tryz.prog 11 (zq1y7 zq1yy) := zq1yq zq3m zq1v zq2o zq183 zqv7 zq1y4 zq1yrΓ zq1yw zq1yx
abbrev zq1z0 := {β : Type} → t6y → (Bool → Option β) → Option β
def zq1z1 (c : zq1z0) : Spec :=
 ⟨[b34y], [], [b25y], [], fun x k => c x.1.1.1 (fun r0 => k (((r0, ()), ()), ()))⟩
abbrev zq1z2 (β : Type) := zqq → t15y → Option β
abbrev zq1z3 (β : Type) := Int → t1y → zqq → zqi → zq4 → t15y → Option β
abbrev zq1z4 := {β : Type} → zq1z2 β → zq1z3 β
noncomputable def zq1z5 : Pc := ⟨205, 0, codeAt 1018 (bodyOf Tryz.f3), ⟨0, [3, 4, 5, 6, 7, 8], [b23y, b27y, b31y, b38y, (false, [.rowh 4]), b21y], [b22y, b24y, b29y, b41y, .row 50 zqt]⟩, [(.exit 0, ⟨0, [4, 7], [b23y, b49y], [b24y, .row 50 zqt]⟩)]⟩
@[reducible] def zq1z6 (p : zq1z4) : zq1z5.G := fun d ks => p (fun a0 a1 => ks.1 (((), (), ()), ((a0, ()), a1, ()))) d.1.2.2.2.2.2.1.1 d.2.1.1 d.2.2.1.1 d.2.2.2.1.1 d.2.2.2.2.1.1 d.2.2.2.2.2.1
abbrev zq1z7 (β : Type) := Int → Int → zqo → t6y → Option β
abbrev zq1z8 (β : Type) := Int → Int → Int → Int → zqq → zqo → t6y → t15y → Option β
abbrev zq1z9 := {β : Type} → zq1z7 β → zq1z8 β
noncomputable def zq1za : Pc := ⟨205, 0, codeAt 524282 (bodyOf Tryz.f3), ⟨0, [4, 11, 17, 18, 19, 128, 129, 130], [b23y, b27y, b45y, b21y, b21y, (false, [.rowh 3]), b21y, b21y], [b24y, b30y, .row 3 (.int .i64), .row 50 zqt]⟩, [(.exit 4, ⟨0, [11, 17, 18, 19], [b23y, b49y, b21y, b21y], [b30y, .row 3 (.int .i64)]⟩)]⟩
@[reducible] def zq1zb (p : zq1z9) : zq1za.G := fun d ks => p (fun a0 a1 a2 a3 => ks.1 (((), (), (a0, ()), (a1, ()), ()), ((a2, ()), a3, ()))) d.1.2.2.2.1.1 d.1.2.2.2.2.1.1 d.1.2.2.2.2.2.2.1.1 d.1.2.2.2.2.2.2.2.1.1 d.2.1.1 d.2.2.1.1 d.2.2.2.1 d.2.2.2.2.1
abbrev zq1zc (β : Type) := Bool → Option β
abbrev zq1zd (β : Type) := Int → Int → zqq → t15y → zqo → Option β
abbrev zq1ze := {β : Type} → zq1zc β → zq1zd β
noncomputable def zq1zf : Pc := ⟨205, 0, codeAt 8191 (bodyOf Tryz.f3), ⟨0, [4, 7, 11, 13, 14], [b23y, b49y, b31y, b21y, b21y], [b24y, .row 50 zqt, b30y]⟩, [(.ret, ⟨0, [2], [b25y], []⟩)]⟩
@[reducible] def zq1zg (p : zq1ze) : zq1zf.G := fun d ks => p (fun a0 => ks.1 (((a0, ()), ()), ())) d.1.2.2.2.1.1 d.1.2.2.2.2.1.1 d.2.1.1 d.2.2.1 d.2.2.2.1.1
abbrev zq1zh (β : Type) := Int → Int → zqq → t15y → zqo → Option β
abbrev zq1zi (β : Type) := Int → Int → t17y → Int → Int → zqq → t15y → zqo → Option β
abbrev zq1zj := {β : Type} → zq1zh β → zq1zi β
noncomputable def zq1zk : Pc := ⟨205, 0, codeAt 16378 (bodyOf Tryz.f3), ⟨0, [4, 7, 11, 13, 14, 73, 74, 75], [b23y, b49y, b31y, b21y, b21y, b32y, b21y, b21y], [b24y, .row 50 zqt, b30y]⟩, [(.exit 2, ⟨0, [4, 7, 11, 13, 14], [b23y, b49y, b31y, b21y, b21y], [b24y, .row 50 zqt, b30y]⟩)]⟩
@[reducible] def zq1zl (p : zq1zj) : zq1zk.G := fun d ks => p (fun a0 a1 a2 a3 a4 => ks.1 (((), (), (), (a0, ()), (a1, ()), ()), ((a2, ()), a3, (a4, ()), ()))) d.1.2.2.2.1.1 d.1.2.2.2.2.1.1 d.1.2.2.2.2.2.1.1 d.1.2.2.2.2.2.2.1.1 d.1.2.2.2.2.2.2.2.1.1 d.2.1.1 d.2.2.1 d.2.2.2.1.1
abbrev zq1zm (β : Type) := Int → Int → Int → Int → zqq → zqo → t6y → zqs → t15y → Option β
abbrev zq1zn (β : Type) := Int → Int → Int → Int → (List t2y) → Int → Int → zqq → zqo → t6y → zqs → t15y → Option β
abbrev zq1zo := {β : Type} → zq1zm β → zq1zn β
noncomputable def zq1zp : Pc := ⟨205, 0, codeAt 1850 (loopBody zq1za.c), ⟨0, [4, 11, 17, 18, 19, 21, 128, 129, 130, 152, 153, 154], [b23y, b27y, b45y, b21y, b21y, b38y, (false, [.rowh 4]), b21y, b21y, b71y, b21y, b21y], [b24y, b30y, .row 3 (.int .i64), b28y, .row 50 zqt]⟩, [(.exit 6, ⟨0, [4, 11, 17, 18, 19, 21, 128, 129, 130], [b23y, b27y, b45y, b21y, b21y, b38y, (false, [.rowh 4]), b21y, b21y], [b24y, b30y, .row 3 (.int .i64), b28y, .row 50 zqt]⟩)]⟩
@[reducible] def zq1zq (p : zq1zo) : zq1zp.G := fun d ks => p (fun a0 a1 a2 a3 a4 a5 a6 a7 a8 => ks.1 (((), (), (), (a0, ()), (a1, ()), (), (), (a2, ()), (a3, ()), ()), ((a4, ()), (a5, ()), a6, (a7, ()), a8, ()))) d.1.2.2.2.1.1 d.1.2.2.2.2.1.1 d.1.2.2.2.2.2.2.2.1.1 d.1.2.2.2.2.2.2.2.2.1.1 d.1.2.2.2.2.2.2.2.2.2.1.1 d.1.2.2.2.2.2.2.2.2.2.2.1.1 d.1.2.2.2.2.2.2.2.2.2.2.2.1.1 d.2.1.1 d.2.2.1.1 d.2.2.2.1 d.2.2.2.2.1.1 d.2.2.2.2.2.1
abbrev zq1zr (β : Type) := Int → Int → t17y → Int → Int → zqq → t15y → zqo → Option β
abbrev zq1zs (β : Type) := Int → Int → t17y → Int → Int → zqq → t15y → zqo → t7y → Option β
abbrev zq1zt := {β : Type} → zq1zr β → zq1zs β
noncomputable def zq1zu : Pc := ⟨205, 0, codeAt 115 (loopBody zq1zk.c), ⟨0, [4, 7, 11, 13, 14, 16, 73, 74, 75], [b23y, b49y, b31y, b21y, b21y, b38y, b32y, b21y, b21y], [b24y, .row 50 zqt, b30y, b47y]⟩, [(.normal, ⟨0, [4, 7, 11, 13, 14, 73, 74, 75], [b23y, b49y, b31y, b21y, b21y, b32y, b21y, b21y], [b24y, .row 50 zqt, b30y]⟩)]⟩
@[reducible] def zq1zv (p : zq1zt) : zq1zu.G := fun d ks => p (fun a0 a1 a2 a3 a4 a5 a6 a7 => ks.1 (((), (), (), (a0, ()), (a1, ()), (a2, ()), (a3, ()), (a4, ()), ()), ((a5, ()), a6, (a7, ()), ()))) d.1.2.2.2.1.1 d.1.2.2.2.2.1.1 d.1.2.2.2.2.2.2.1.1 d.1.2.2.2.2.2.2.2.1.1 d.1.2.2.2.2.2.2.2.2.1.1 d.2.1.1 d.2.2.1 d.2.2.2.1.1 d.2.2.2.2.1.1
section
variable (zq220 : zq1mo) (zq221 : zqs1) (zq222 : zqqh) (zq223 : zq1aq) (zqxr : zq1p) (zq224 : zq1y6) (zq225 : zq19) (zq226 : zq1h) (zqyh : zq1x) (zqyb : zqtl) (zq227 : zq1bk)
@[reducible] def zq1zw : Ctx := cx [(5, .spec (zq1mp zq220)), (9, .spec (zqs2 zq221)), (8, .spec (zqqi zq222)), (7, .spec (zq1ar zq223)), (10, .spec (zq1q zqxr)), (11, .spec (zq1y7 zq224)), (4, .spec (zq1a zq225)), (6, .spec (zq1i zq226)), (14, .spec (zq1y zqyh)), (13, .spec (zqtm zqyb)), (12, .spec (zq1bl zq227))]
def zq1zx {β : Type} (rec : zq1z3 β) (k1 : zq1z2 β) : zq1z3 β := fun i_ d x c b pages =>
 cond (decide ((0 : Int) < i_))
 (zq224 c b (4 : Int) d (fun (rPage : zqs) (rPage2 : Int) (mrPage : t1y) =>
 let l : List zqs := ([rPage] : List zqs);
 cond (decide ((List.length pages + List.length l) * 160 ≤ roomMax))
 (let l2 : List zqs := (pages ++ l);
 let i_2 : Int := (IntKind.i64.wrap (i_ - (1 : Int)));
 rec i_2 mrPage x c b l2)
 none))
 (k1 x pages)
def zq1zy {β : Type} (i : Nat) (k1 : zq1z2 β) := lp6 (fun r => zq1zx zq224 r k1) none i
theorem zq1zz (hΓ : GO (zq1zw zq220 zq221 zq222 zq223 zqxr zq224 zq225 zq226 zqyh zqyb zq227)) (i : Nat) : OK zq1z5 (zq1z6 (zq1zy zq224 i)) :=
 pcL mixed (zq1zw zq220 zq221 zq222 zq223 zqxr zq224 zq225 zq226 zqyh zqyb zq227) tab_ok hΓ (G := fun i => @fun β d ks => zq1z6 (zq1zy zq224 i) d ks) (pick1 []) (by kernel_rfl) rfl (by kernel_rfl) CutsOk_nil (fun _ _ => rfl) (fun _ _ _ _ => by kernel_rfl) i
def zq200 {β : Type} (rec : zq1zn β) (k1 : zq1zm β) : zq1zn β := fun calls ack t129 t130 t152 t153 t154 x r_ seen p_ t128 =>
 cond (decide (t154 < t153))
 (cond (decide (0 ≤ t154) && decide (t154 < (List.length t152 : Int)))
 (let e : t2y := List.getD t152 (Int.toNat t154) ((0 : Int), ((0 : Int), ([] : List Int)));
 let calls2 : Int := (IntKind.i64.wrap (calls + (List.length e.2.2 : Int)));
 rec calls2 ack t129 t130 t152 t153 (IntKind.i64.wrap (t154 + (1 : Int))) x r_ seen p_ t128)
 none)
 (k1 calls ack t129 t130 x r_ seen p_ t128)
def zq201 {β : Type} (i : Nat) (k1 : zq1zm β) := lp12 (fun r => zq200 r k1) none i
theorem zq202 (hΓ : GO (zq1zw zq220 zq221 zq222 zq223 zqxr zq224 zq225 zq226 zqyh zqyb zq227)) (i : Nat) : OK zq1zp (zq1zq (zq201 i)) :=
 pcL mixed (zq1zw zq220 zq221 zq222 zq223 zqxr zq224 zq225 zq226 zqyh zqyb zq227) tab_ok hΓ (G := fun i => @fun β d ks => zq1zq (zq201 i) d ks) (pick1 []) (by kernel_rfl) rfl (by kernel_rfl) CutsOk_nil (fun _ _ => rfl) (fun _ _ _ _ => by kernel_rfl) i
def zq203 (p2 : zq1zo) {β : Type} (rec : zq1z8 β) (k1 : zq1z7 β) : zq1z8 β := fun calls ack t129 t130 x r_ seen t128 =>
 cond (decide (t130 < t129))
 (cond (decide (0 ≤ t130) && decide (t130 < (List.length t128 : Int)))
 (zqyh x.2.2.2.2.2.2.1 ((List.getD t128 (Int.toNat t130) ((0 : Int), ((0 : Int), ((0 : Int), ((0 : Int), ((0 : Int), ((0 : Int), ((0 : Int), ((0 : Int), ((0 : Int), ((0 : Int), ((0 : Int), (([] : List t2y), (([] : List Int), ([] : List Int))))))))))))))).1) (fun (rHas : Bool) =>
 cond (!rHas)
 (rec calls ack t129 (IntKind.i64.wrap (t130 + (1 : Int))) x r_ seen t128)
 (zqyh seen ((List.getD t128 (Int.toNat t130) ((0 : Int), ((0 : Int), ((0 : Int), ((0 : Int), ((0 : Int), ((0 : Int), ((0 : Int), ((0 : Int), ((0 : Int), ((0 : Int), ((0 : Int), (([] : List t2y), (([] : List Int), ([] : List Int))))))))))))))).1) (fun (rHas2 : Bool) =>
 cond rHas2
 (rec calls ack t129 (IntKind.i64.wrap (t130 + (1 : Int))) x r_ seen t128)
 (let l : List Int := ([(List.getD t128 (Int.toNat t130) ((0 : Int), ((0 : Int), ((0 : Int), ((0 : Int), ((0 : Int), ((0 : Int), ((0 : Int), ((0 : Int), ((0 : Int), ((0 : Int), ((0 : Int), (([] : List t2y), (([] : List Int), ([] : List Int))))))))))))))).1] : List Int);
 cond (decide ((List.length seen + List.length l) * 8 ≤ roomMax))
 (let l2 : List Int := (seen ++ l);
 p2 (fun (calls2 : Int) (ack2 : Int) (t1292 : Int) (t1302 : Int) (x2 : zqq) (r_2 : zqo) (seen2 : List Int) (p_ : zqs) (t1282 : List zqs) =>
 let n : Int := (if (IntKind.i64.wrap (p_.2.2.2.2.2.2.2.2.1 - x2.2.2.2.1)) > (0 : Int) then (IntKind.i64.wrap (p_.2.2.2.2.2.2.2.2.1 - x2.2.2.2.1)) else (0 : Int));
 cond (decide (p_.2.2.2.2.2.1 = (1 : Int)))
 (cond (decide (ack2 < (0 : Int)))
 (rec calls2 n t1292 (IntKind.i64.wrap (t1302 + (1 : Int))) x2 r_2 seen2 t1282)
 (cond (decide (n < ack2))
 (rec calls2 n t1292 (IntKind.i64.wrap (t1302 + (1 : Int))) x2 r_2 seen2 t1282)
 (rec calls2 ack2 t1292 (IntKind.i64.wrap (t1302 + (1 : Int))) x2 r_2 seen2 t1282)))
 (rec calls2 ack2 t1292 (IntKind.i64.wrap (t1302 + (1 : Int))) x2 r_2 seen2 t1282)) calls ack t129 t130 (((((((((((((List.getD t128 (Int.toNat t130) ((0 : Int), ((0 : Int), ((0 : Int), ((0 : Int), ((0 : Int), ((0 : Int), ((0 : Int), ((0 : Int), ((0 : Int), ((0 : Int), ((0 : Int), (([] : List t2y), (([] : List Int), ([] : List Int))))))))))))))).2).2).2).2).2).2).2).2).2).2).2).1) (List.length (((((((((((((List.getD t128 (Int.toNat t130) ((0 : Int), ((0 : Int), ((0 : Int), ((0 : Int), ((0 : Int), ((0 : Int), ((0 : Int), ((0 : Int), ((0 : Int), ((0 : Int), ((0 : Int), (([] : List t2y), (([] : List Int), ([] : List Int))))))))))))))).2).2).2).2).2).2).2).2).2).2).2).1) : Int) (0 : Int) x r_ l2 (List.getD t128 (Int.toNat t130) ((0 : Int), ((0 : Int), ((0 : Int), ((0 : Int), ((0 : Int), ((0 : Int), ((0 : Int), ((0 : Int), ((0 : Int), ((0 : Int), ((0 : Int), (([] : List t2y), (([] : List Int), ([] : List Int))))))))))))))) t128)
 none)))))
 none)
 (k1 calls ack r_ seen)
def zq204 (p2 : zq1zo) {β : Type} (i : Nat) (k1 : zq1z7 β) := lp8 (fun r => zq203 zqyh p2 r k1) none i
theorem zq205 (hΓ : GO (zq1zw zq220 zq221 zq222 zq223 zqxr zq224 zq225 zq226 zqyh zqyb zq227)) (p2 : zq1zo) (hp2 : OK zq1zp (zq1zq p2)) (i : Nat) : OK zq1za (zq1zb (zq204 zqyh p2 i)) :=
 pcL mixed (zq1zw zq220 zq221 zq222 zq223 zqxr zq224 zq225 zq226 zqyh zqyb zq227) tab_ok hΓ (G := fun i => @fun β d ks => zq1zb (zq204 zqyh p2 i) d ks) (pick1 [(1850, zq1zp.cut (zq1zq p2))]) (by kernel_rfl) rfl (by kernel_rfl) (CutsOk_cons (by kernel_rfl) rfl hp2 CutsOk_nil) (fun _ _ => rfl) (fun _ _ _ _ => by kernel_rfl) i
def zq206 (p3 : zq1z9) {β : Type} (k1 : zq1zc β) : zq1zd β := fun first last x pages r_ =>
 cond (!decide (r_.2.2.1.2 = first))
 (k1 false)
 (cond (!decide (r_.2.2.2.1.2 = last))
 (k1 false)
 (cond (decide ((List.length x.2.2.2.2.2.2.1 : Int) < r_.2.2.2.2.1))
 (k1 false)
 (p3 (fun (calls : Int) (ack : Int) (r_2 : zqo) (seen : List Int) =>
 cond (decide (r_2.2.2.2.2.2.1 = calls))
 (cond (decide (r_2.2.2.2.2.1 = (List.length seen : Int)))
 (cond (decide (r_2.2.1.2 = ack))
 (zq220  (fun (rsane : Bool) =>
 k1 rsane))
 (k1 false))
 (k1 false))
 (k1 false)) (0 : Int) (-1 : Int) (List.length pages : Int) (0 : Int) x r_ ([] : List Int) pages)))
def zq207 (p3 : zq1z9) {β : Type} (k1 : zq1zc β) : zq1zd β := zq206 zq220 p3 k1
theorem zq208 (hΓ : GO (zq1zw zq220 zq221 zq222 zq223 zqxr zq224 zq225 zq226 zqyh zqyb zq227)) (p3 : zq1z9) (hp3 : OK zq1za (zq1zb p3)) : OK zq1zf (zq1zg (zq207 zq220 p3)) :=
 pcE mixed (zq1zw zq220 zq221 zq222 zq223 zqxr zq224 zq225 zq226 zqyh zqyb zq227) tab_ok hΓ 8191 (pick1 [(524282, zq1za.cut (zq1zb p3))]) (by kernel_rfl) (CutsOk_cons (by kernel_rfl) rfl hp3 CutsOk_nil) (fun _ _ => by kernel_rfl)
def zq209 {β : Type} (k1 : zq1zr β) : zq1zs β := fun first last t73 t74 t75 x pages r_ y =>
 cond (decide (y.2.1 = (2 : Int)))
 (let last2 : Int := (IntKind.i64.wrap (y.1 - x.2.2.2.1));
 k1 first last2 t73 t74 t75 x pages r_)
 (k1 first last t73 t74 t75 x pages r_)
def zq20a {β : Type} (k1 : zq1zr β) : zq1zs β := zq209 k1
theorem zq20b (hΓ : GO (zq1zw zq220 zq221 zq222 zq223 zqxr zq224 zq225 zq226 zqyh zqyb zq227)) : OK zq1zu (zq1zv (zq20a)) :=
 pcE mixed (zq1zw zq220 zq221 zq222 zq223 zqxr zq224 zq225 zq226 zqyh zqyb zq227) tab_ok hΓ 115 (pick1 []) (by kernel_rfl) CutsOk_nil (fun _ _ => by kernel_rfl)
def zq20c (p5 : zq1zt) {β : Type} (rec : zq1zi β) (k1 : zq1zh β) : zq1zi β := fun first last t73 t74 t75 x pages r_ =>
 cond (decide (t75 < t74))
 (cond (decide (0 ≤ t75) && decide (t75 < (List.length t73 : Int)))
 (let e : t7y := List.getD t73 (Int.toNat t75) ((0 : Int), ((0 : Int), (0 : Int)));
 cond (decide (e.2.1 = (1 : Int)))
 (cond (decide (first < (0 : Int)))
 (let first2 : Int := (IntKind.i64.wrap (e.1 - x.2.2.2.1));
 p5 (fun (first3 : Int) (last2 : Int) (t732 : List t7y) (t742 : Int) (t752 : Int) (x2 : zqq) (pages2 : List zqs) (r_2 : zqo) =>
 rec first3 last2 t732 t742 (IntKind.i64.wrap (t752 + (1 : Int))) x2 pages2 r_2) first2 last t73 t74 t75 x pages r_ e)
 (p5 (fun (first2 : Int) (last2 : Int) (t732 : List t7y) (t742 : Int) (t752 : Int) (x2 : zqq) (pages2 : List zqs) (r_2 : zqo) =>
 rec first2 last2 t732 t742 (IntKind.i64.wrap (t752 + (1 : Int))) x2 pages2 r_2) first last t73 t74 t75 x pages r_ e))
 (p5 (fun (first2 : Int) (last2 : Int) (t732 : List t7y) (t742 : Int) (t752 : Int) (x2 : zqq) (pages2 : List zqs) (r_2 : zqo) =>
 rec first2 last2 t732 t742 (IntKind.i64.wrap (t752 + (1 : Int))) x2 pages2 r_2) first last t73 t74 t75 x pages r_ e))
 none)
 (k1 first last x pages r_)
def zq20d (p5 : zq1zt) {β : Type} (i : Nat) (k1 : zq1zh β) := lp8 (fun r => zq20c p5 r k1) none i
theorem zq20e (hΓ : GO (zq1zw zq220 zq221 zq222 zq223 zqxr zq224 zq225 zq226 zqyh zqyb zq227)) (p5 : zq1zt) (hp5 : OK zq1zu (zq1zv p5)) (i : Nat) : OK zq1zk (zq1zl (zq20d p5 i)) :=
 pcL mixed (zq1zw zq220 zq221 zq222 zq223 zqxr zq224 zq225 zq226 zqyh zqyb zq227) tab_ok hΓ (G := fun i => @fun β d ks => zq1zl (zq20d p5 i) d ks) (pick1 [(115, zq1zu.cut (zq1zv p5))]) (by kernel_rfl) rfl (by kernel_rfl) (CutsOk_cons (by kernel_rfl) rfl hp5 CutsOk_nil) (fun _ _ => rfl) (fun _ _ _ _ => by kernel_rfl) i
def zq20f (p1 : zq1z4) (p4 : zq1ze) (p6 : zq1zj) : zq1z0 := fun t k =>
 zq225 t (fun (rLight : Bool) =>
 cond (!rLight)
 (zq220  (fun (rsane : Bool) =>
 k rsane))
 (zq226 t (fun (mrRoll : t1y) =>
 zq223 (1 : Int) (10 : Int) mrRoll (fun (rIncident : zqq) (mrIncident : t1y) =>
 zq222 mrIncident (fun (rCrew : zqi) (mrCrew : t1y) =>
 zq221 mrCrew (fun (rBook : zq4) (mrBook : t1y) =>
 zqxr (4 : Int) mrBook (fun (rNext : Int) (mrNext : t1y) =>
 p1 (fun (x : zqq) (pages : List zqs) =>
 zq227 x pages (fun (rOf : zqo) (rOf2 : Int) =>
 cond (!decide (rOf2 = (0 : Int)))
 (k false)
 (zqyb x (fun (rCheck : Bool) =>
 cond (!rCheck)
 (k false)
 (cond (!decide (rOf.1 = (1 : Int)))
 (k false)
 (p6 (fun (first : Int) (last : Int) (x2 : zqq) (pages2 : List zqs) (r_ : zqo) =>
 cond (!decide (x2.2.1 = (2 : Int)))
 (cond (!decide (x2.2.1 = (3 : Int)))
 (p4 (fun (t2 : Bool) =>
 k t2) first (-1 : Int) x2 pages2 r_)
 (p4 (fun (t2 : Bool) =>
 k t2) first last x2 pages2 r_))
 (p4 (fun (t2 : Bool) =>
 k t2) first last x2 pages2 r_)) (-1 : Int) (-1 : Int) x.2.2.2.2.2.2.2.2.2.2.1 (List.length x.2.2.2.2.2.2.2.2.2.2.1 : Int) (0 : Int) x pages rOf)))))) rNext mrNext rIncident rCrew rBook ([] : List zqs))))))))
theorem zq20g (hΓ : GO (zq1zw zq220 zq221 zq222 zq223 zqxr zq224 zq225 zq226 zqyh zqyb zq227)) (p1 : zq1z4) (p4 : zq1ze) (p6 : zq1zj) (hp1 : OK zq1z5 (zq1z6 p1)) (hp4 : OK zq1zf (zq1zg p4)) (hp6 : OK zq1zk (zq1zl p6)) : SpecOk Tryz.prog 3 (zq1z1 (zq20f zq220 zq221 zq222 zq223 zqxr zq225 zq226 zqyb zq227 p1 p4 p6)) :=
 pcS mixed (zq1zw zq220 zq221 zq222 zq223 zqxr zq224 zq225 zq226 zqyh zqyb zq227) tab_ok hΓ (pick1 [(1018, zq1z5.cut (zq1z6 p1)), (8191, zq1zf.cut (zq1zg p4)), (16378, zq1zk.cut (zq1zl p6))]) [.tmp 2] Tryz.func3 (by kernel_rfl) (by kernel_rfl) (by kernel_rfl) (by kernel_rfl) (CutsOk_cons (by kernel_rfl) rfl hp1 (CutsOk_cons (by kernel_rfl) rfl hp4 (CutsOk_cons (by kernel_rfl) rfl hp6 CutsOk_nil))) (fun _ _ => by kernel_rfl)
end
theorem zq20hΓ : GO (zq1zw zq1mu zqtj zqrz zq1bi zq1v zq1yy zq1f zq1n zq2g zquh zq1dk) := (ΓOk_cons zq1mv (ΓOk_cons zqtk (ΓOk_cons zqs0 (ΓOk_cons zq1bj (ΓOk_cons zq1w (ΓOk_cons zq1yz (ΓOk_cons zq1g (ΓOk_cons zq1o (ΓOk_cons zq2h (ΓOk_cons zqui (ΓOk_cons zq1dl ΓOk_nil)))))))))))
def zq20i (m : Nat) : zq1z4 := zq1zy zq1yy m
theorem zq20j {β : Type} (i : Nat) (k1) : zq20i (β := β) (i + 1) k1 = zq1zx zq1yy (zq20i i k1) k1 := rfl
def zq20k : zq1z4 := zq20i fuel
theorem zq20l : OK zq1z5 (zq1z6 zq20k) := zq1zz zq1mu zqtj zqrz zq1bi zq1v zq1yy zq1f zq1n zq2g zquh zq1dk zq20hΓ fuel
def zq20m (m : Nat) : zq1zo := zq201 m
theorem zq20n {β : Type} (i : Nat) (k1) : zq20m (β := β) (i + 1) k1 = zq200 (zq20m i k1) k1 := rfl
def zq20o : zq1zo := zq20m fuel
theorem zq20p : OK zq1zp (zq1zq zq20o) := zq202 zq1mu zqtj zqrz zq1bi zq1v zq1yy zq1f zq1n zq2g zquh zq1dk zq20hΓ fuel
def zq20q (m : Nat) : zq1z9 := zq204 zq2g zq20o m
theorem zq20r {β : Type} (i : Nat) (k1) : zq20q (β := β) (i + 1) k1 = zq203 zq2g zq20o (zq20q i k1) k1 := rfl
def zq20s : zq1z9 := zq20q fuel
theorem zq20t : OK zq1za (zq1zb zq20s) := zq205 zq1mu zqtj zqrz zq1bi zq1v zq1yy zq1f zq1n zq2g zquh zq1dk zq20hΓ zq20o zq20p fuel
def zq20u : zq1ze := zq207 zq1mu zq20s
theorem zq20v : OK zq1zf (zq1zg zq20u) := zq208 zq1mu zqtj zqrz zq1bi zq1v zq1yy zq1f zq1n zq2g zquh zq1dk zq20hΓ zq20s zq20t
def zq20w : zq1zt := zq20a
theorem zq20x : OK zq1zu (zq1zv zq20w) := zq20b zq1mu zqtj zqrz zq1bi zq1v zq1yy zq1f zq1n zq2g zquh zq1dk zq20hΓ
def zq20y (m : Nat) : zq1zj := zq20d zq20w m
theorem zq20z {β : Type} (i : Nat) (k1) : zq20y (β := β) (i + 1) k1 = zq20c zq20w (zq20y i k1) k1 := rfl
def zq210 : zq1zj := zq20y fuel
theorem zq211 : OK zq1zk (zq1zl zq210) := zq20e zq1mu zqtj zqrz zq1bi zq1v zq1yy zq1f zq1n zq2g zquh zq1dk zq20hΓ zq20w zq20x fuel
def zq212 : zq1z0 := zq20f zq1mu zqtj zqrz zq1bi zq1v zq1f zq1n zquh zq1dk zq20k zq20u zq210
theorem zq213 : SpecOk Tryz.prog 3 (zq1z1 zq212) := zq20g zq1mu zqtj zqrz zq1bi zq1v zq1yy zq1f zq1n zq2g zquh zq1dk zq20hΓ zq20k zq20u zq210 zq20l zq20v zq211
end
end Go.Lift
namespace Go.Lift
open Go.RowKit Go.IntWalk
section
variable {β : Type}
theorem c_inb {i n : Int} {a b : Option β} (h : 0 ≤ i ∧ i < n) : cond (decide (0 ≤ i) && decide (i < n)) a b = a := by
 rw [decide_eq_true h.1, decide_eq_true h.2]; rfl
theorem c_room {n : Nat} {a b : Option β} (h : n ≤ 140737488355328) : cond (decide (n ≤ roomMax)) a b = a := by
 rw [decide_eq_true (p := n ≤ roomMax) h]; rfl
theorem c_pos {p : Prop} [Decidable p] {a b : Option β} (h : p) : cond (decide p) a b = a := by rw [decide_eq_true h]; rfl
theorem c_neg {p : Prop} [Decidable p] {a b : Option β} (h : ¬ p) : cond (decide p) a b = b := by rw [decide_eq_false h]; rfl
theorem c_npos {p : Prop} [Decidable p] {a b : Option β} (h : p) : cond (!decide p) a b = b := by rw [decide_eq_true h]; rfl
theorem c_nneg {p : Prop} [Decidable p] {a b : Option β} (h : ¬ p) : cond (!decide p) a b = a := by rw [decide_eq_false h]; rfl
theorem c_t {a b : Option β} : cond true a b = a := rfl
theorem c_f {a b : Option β} : cond false a b = b := rfl
theorem c_p3 {p q r : Prop} [Decidable p] [Decidable q] [Decidable r] {a b : Option β} (hp : p) (hq : q) (hr : r) : cond (decide p && (decide q && decide r)) a b = a := by rw [decide_eq_true hp, decide_eq_true hq, decide_eq_true hr]; rfl
theorem c_not {p : Bool} {a b : Option β} : cond (!p) a b = cond p b a := by cases p <;> rfl
theorem c_kb (k : Bool → Option β) (p q : Bool) : cond p (k q) (k false) = k (p && q) := by cases p <;> rfl
def walk {α σ ε : Type} (g : Nat → α → σ → ε ⊕ σ) : List α → Nat → σ → ε ⊕ σ
 | [], _, s => .inr s
 | x :: r, j, s =>
  match g j x s with
  | .inl e => .inl e
  | .inr s' => walk g r (j + 1) s'
def sumK {ε σ : Type} (E : ε → Option β) (K : σ → Option β) : ε ⊕ σ → Option β
 | .inl e => E e
 | .inr s => K s
theorem walk_loop {α σ ε : Type} (F : Nat → Int → σ → Option β) (g : Nat → α → σ → ε ⊕ σ) (E : ε → Option β) (K : σ → Option β) (d : α) (xs : List α)
  (h1 : ∀ (m i : Nat) s, i < xs.length → F (m + 1) (i : Int) s = sumK E (fun s' => F m ((i : Int) + 1) s') (g i (xs.getD i d) s))
  (h2 : ∀ (m : Nat) s, F (m + 1) (xs.length : Int) s = K s) :
  ∀ (r : List α) (j fuel : Nat) (s : σ), xs.drop j = r → j + r.length = xs.length → r.length < fuel → F fuel (j : Int) s = sumK E K (walk g r j s)
 | r, j, 0, s, _, _, h => absurd h (Nat.not_lt_zero _)
 | [], j, m + 1, s, hd, hj, _ => by
  simp only [List.length_nil, Nat.add_zero] at hj
  subst hj
  rw [h2]; rfl
 | x :: r, j, m + 1, s, hd, hj, hm => by
  simp only [List.length_cons] at hj hm
  have h3 : j < xs.length := by omega
  have hx : xs.getD j d = x := by
   rw [List.drop_eq_getElem_cons h3] at hd
   injection hd with hd1 hd2
   simp [List.getD, h3, hd1]
  have hr : xs.drop (j + 1) = r := by
   rw [List.drop_eq_getElem_cons h3] at hd
   injection hd with hd1 hd2
  rw [h1 m j s h3, hx, walk]
  cases hg : g j x s with
  | inl e => rfl
  | inr s' =>
   simp only [sumK]
   exact walk_loop F g E K d xs h1 h2 r (j + 1) m s' hr (by omega) (by omega)
theorem walk_loop0 {α σ ε : Type} (F : Nat → Int → σ → Option β) (g : Nat → α → σ → ε ⊕ σ) (E : ε → Option β) (K : σ → Option β) (d : α) (xs : List α) (s : σ) (n : Nat) (hn : xs.length < n)
  (h1 : ∀ (m i : Nat) s, i < xs.length → F (m + 1) (i : Int) s = sumK E (fun s' => F m ((i : Int) + 1) s') (g i (xs.getD i d) s))
  (h2 : ∀ (m : Nat) s, F (m + 1) (xs.length : Int) s = K s) : F n 0 s = sumK E K (walk g xs 0 s) :=
 walk_loop F g E K d xs h1 h2 xs 0 n s rfl (by simp) hn
theorem check_loop {α : Type} (F : Nat → Int → Option β) (p : α → Bool) (E K : Option β) (d : α) (xs : List α) (n : Nat) (hn : xs.length < n)
  (h1 : ∀ (m i : Nat), i < xs.length → F (m + 1) (i : Int) = cond (p (xs.getD i d)) (F m ((i : Int) + 1)) E)
  (h2 : ∀ (m : Nat), F (m + 1) (xs.length : Int) = K) : F n 0 = cond (xs.all p) K E := by
 have h := walk_loop0 (ε := Unit) (fun m i (_ : Unit) => F m i) (fun _ x s => cond (p x) (.inr s) (.inl ())) (fun _ => E) (fun _ => K) d xs () n hn
  (fun m i s hi => by rw [h1 m i hi]; cases p (xs.getD i d) <;> rfl) (fun m s => h2 m)
 rw [h]
 have key : ∀ (l : List α) (j : Nat), sumK (fun _ => E) (fun _ => K) (walk (ε := Unit) (fun _ x (s : Unit) => cond (p x) (.inr s) (.inl ())) l j ()) = cond (l.all p) K E := by
  intro l
  induction l with
  | nil => intro j; rfl
  | cons x l ih =>
   intro j
   simp only [walk, List.all_cons]
   cases p x with
   | true => simpa using ih (j + 1)
   | false => rfl
 exact key xs 0
theorem fold_loopI {α σ : Type} (I : Nat → σ → Prop) (F : Nat → Int → σ → Option β) (g : σ → α → σ) (K : σ → Option β) (d : α) (xs : List α) (s : σ) (n : Nat) (hn : xs.length < n) (h0 : I 0 s)
  (hI : ∀ (i : Nat) s, i < xs.length → I i s → I (i + 1) (g s (xs.getD i d)))
  (h1 : ∀ (m i : Nat) s, i < xs.length → I i s → F (m + 1) (i : Int) s = F m ((i : Int) + 1) (g s (xs.getD i d)))
  (h2 : ∀ (m : Nat) s, I xs.length s → F (m + 1) (xs.length : Int) s = K s) : F n 0 s = K (xs.foldl g s) := by
 have key : ∀ (r : List α) (j fuel : Nat) (s : σ), xs.drop j = r → j + r.length = xs.length → r.length < fuel → I j s → F fuel (j : Int) s = K (r.foldl g s) := by
  intro r
  induction r with
  | nil =>
   intro j fuel s hd hj hf hs
   obtain ⟨m, rfl⟩ : ∃ m, fuel = m + 1 := ⟨fuel - 1, by omega⟩
   simp only [List.length_nil, Nat.add_zero] at hj
   subst hj
   exact h2 m s hs
  | cons x r ih =>
   intro j fuel s hd hj hf hs
   obtain ⟨m, rfl⟩ : ∃ m, fuel = m + 1 := ⟨fuel - 1, by omega⟩
   simp only [List.length_cons] at hj hf
   have h3 : j < xs.length := by omega
   have hx : xs.getD j d = x := by
    rw [List.drop_eq_getElem_cons h3] at hd
    injection hd with hd1 hd2
    simp [List.getD, h3, hd1]
   have hr : xs.drop (j + 1) = r := by
    rw [List.drop_eq_getElem_cons h3] at hd
    injection hd with hd1 hd2
   rw [h1 m j s h3 hs, hx]
   have := hI j s h3 hs
   rw [hx] at this
   exact ih (j + 1) m (g s x) hr (by omega) (by omega) this
 exact key xs 0 n s rfl (by simp) hn h0
end
end Go.Lift
namespace Go.Lift
open Go.RowKit Go.IntWalk
noncomputable section
set_option linter.unusedVariables false
set_option linter.unusedSimpArgs false
set_option maxRecDepth 10000
theorem scan_state {β σ : Type} (n : Nat) (S : Nat → σ) (q : Nat → Bool) (F : Nat → Int → σ → Option β) (K E : Option β) (N : Nat) (hn : n < N)
  (h1 : ∀ (m i : Nat), i < n → F (m + 1) (i : Int) (S i) = cond (q i) (F m ((i : Int) + 1) (S (i + 1))) E)
  (h2 : ∀ (m : Nat), F (m + 1) (n : Int) (S n) = K) : F N 0 (S 0) = cond ((List.range n).all q) K E := by
 have key : ∀ (r i N : Nat), i + r = n → r < N → F N (i : Int) (S i) = cond ((List.range' i r).all q) K E := by
  intro r
  induction r with
  | zero =>
   intro i N hi hN
   obtain ⟨m, rfl⟩ : ∃ m, N = m + 1 := ⟨N - 1, by omega⟩
   rw [show i = n by omega, h2]
   rfl
  | succ r ih =>
   intro i N hi hN
   obtain ⟨m, rfl⟩ : ∃ m, N = m + 1 := ⟨N - 1, by omega⟩
   rw [h1 m i (by omega), List.range'_succ, List.all_cons]
   cases q i with
   | true =>
    have := ih (i + 1) m (by omega) (by omega)
    rw [show (((i + 1 : Nat)) : Int) = (i : Int) + 1 by omega] at this
    rw [Bool.true_and]
    exact this
   | false => rfl
 have := key n 0 N (by omega) hn
 rw [List.range_eq_range']
 exact this
def inB (n low high : Int) : Bool := decide (low ≤ n) && decide (n ≤ high)
theorem inB_iff {n low high : Int} : inB n low high = true ↔ low ≤ n ∧ n ≤ high := by simp [inB]
def bodyB (n : Int) : Bool := decide (n = -1) || inB n 0 31
theorem bodyB_iff {n : Int} : bodyB n = true ↔ -1 ≤ n ∧ n ≤ 31 := by
 simp only [bodyB, inB, Bool.or_eq_true, Bool.and_eq_true, decide_eq_true_eq]
 omega
def textB (s : List UInt8) : Bool := s.all (fun b => inB (b.toNat : Int) 32 126) && inB (s.length : Int) 1 512
def setI (l : List Int) (lo hi : Int) (i : Nat) : Bool := inB (l.getD i 0) lo hi && !(decide (0 < i) && decide (l.getD i 0 ≤ l.getD (i - 1) 0))
def setB (l : List Int) (lo hi : Int) : Bool := (List.range l.length).all (setI l lo hi)
abbrev ITask := zqk
abbrev IUpd := zqm
abbrev IChg := (Int × (Int × Int))
abbrev Inc := zqq
def taskB (opened : Int) (t : ITask) : Bool := textB t.1 && (bodyB t.2.1 && (inB t.2.2.1 opened 8589934592 && (decide (t.2.2.2 = -1) || inB t.2.2.2 t.2.2.1 8589934592)))
def uAt (l : List IUpd) (o : Int) (i : Nat) : Int := if i = 0 then o else (l.getD (i - 1) (0, (0, ([], [])))).1
def updI (l : List IUpd) (o : Int) (i : Nat) : Bool :=
 inB (l.getD i (0, (0, ([], [])))).1 (uAt l o i) 8589934592 && (inB (l.getD i (0, (0, ([], [])))).2.1 0 4 && (textB (l.getD i (0, (0, ([], [])))).2.2.1 && setB (l.getD i (0, (0, ([], [])))).2.2.2 0 31))
def updB (l : List IUpd) (o : Int) : Bool := (List.range l.length).all (updI l o)
def cAt (l : List IChg) (o : Int) (i : Nat) : Int := if i = 0 then o else (l.getD (i - 1) (0, (0, 0))).1
def cSt (l : List IChg) (i : Nat) : Int := if i = 0 then 0 else (l.getD (i - 1) (0, (0, 0))).2.1
def chgI (l : List IChg) (o : Int) (i : Nat) : Bool :=
 inB (l.getD i (0, (0, 0))).1 (cAt l o i) 8589934592 && (inB (l.getD i (0, (0, 0))).2.1 0 4 && (!decide ((l.getD i (0, (0, 0))).2.1 = cSt l i) && bodyB (l.getD i (0, (0, 0))).2.2))
def chgB (l : List IChg) (o : Int) : Bool := (List.range l.length).all (chgI l o)
section
variable {β : Type}
theorem iin_eq (n lo hi : Int) (k : Bool → Option β) : zqdg n lo hi k = k (inB n lo hi) := by simp only [zqdg, zqdd, inB, c_kb]
theorem rin_eq (n lo hi : Int) (k : Bool → Option β) : zq4a n lo hi k = k (inB n lo hi) := by simp only [zq4a, zq47, inB, c_kb]
theorem iperson_eq (n : Int) (k : Bool → Option β) : zqk0 n k = k (inB n 0 31) := by simp only [zqk0, zqjx, iin_eq]
theorem inumber_eq (n : Int) (k : Bool → Option β) : zqww n k = k (inB n 1 999999) := by simp only [zqww, zqwt, iin_eq]
theorem ibody_eq (n : Int) (k : Bool → Option β) : zqx4 n k = k (bodyB n) := by
 simp only [zqx4, zqx1, iperson_eq, bodyB]
 cases decide (n = -1) <;> rfl
theorem rbody_eq (n : Int) (k : Bool → Option β) : zq5b n true k = k (bodyB n) := by
 simp only [zq5b, zq58, rin_eq, bodyB]
 cases inB n 0 31 <;> cases decide (n = -1) <;> rfl
theorem rperson_eq (n : Int) (k : Bool → Option β) : zq5b n false k = k (inB n 0 31) := by
 simp only [zq5b, zq58, rin_eq]
 cases inB n 0 31 <;> rfl
theorem rstate_eq (n : Int) (k : Bool → Option β) : zq4i n k = k (inB n 0 4) := by simp only [zq4i, zq4f, rin_eq]
theorem byte_bd (b : UInt8) : 0 ≤ (b.toNat : Int) ∧ (b.toNat : Int) < 256 := ⟨by omega, by have := b.toNat_lt; omega⟩
theorem itext_eq (s : List UInt8) (hs : s.length ≤ 1000000) (k : Bool → Option β) : zqe1 s k = k (textB s) := by
 have h := check_loop (fun m i => zqdx m (fun (t2 : Bool) => k t2) (fun (s2 : List UInt8) => zqdg (s2.length : Int) 1 512 (fun (rin : Bool) => k rin)) s (s.length : Int) i) (fun b => inB (b.toNat : Int) 32 126) (k false) (k (inB (s.length : Int) 1 512)) 0 s fuel (lt_fuel (by omega))
  (fun m i hi => by
   have hb := byte_bd (s.getD i 0)
   have hw : IntKind.i64.wrap ((s.getD i 0).toNat : Int) = ((s.getD i 0).toNat : Int) := i64_in _ (by omega)
   simp (disch := omega) only [zqdy, zqdr, iin_eq, c_pos, c_inb, c_not, i64_in, Int.toNat_natCast, hw])
  (fun m => by simp (disch := omega) only [zqdy, zqdr, c_neg, iin_eq])
 unfold zqe1 zqdu
 refine Eq.trans ?_ (h.trans ?_)
 ·rfl
 ·unfold textB
  rw [c_kb]
theorem rtext_eq (s : List UInt8) (hs : s.length ≤ 1000000) (k : Bool → Option β) : zq53 s k = k (textB s) := by
 have h := check_loop (fun m i => zq4z m (fun (t2 : Bool) => k t2) (fun (s2 : List UInt8) => zq4a (s2.length : Int) 1 512 (fun (rin : Bool) => k rin)) s i) (fun b => inB (b.toNat : Int) 32 126) (k false) (k (inB (s.length : Int) 1 512)) 0 s fuel (lt_fuel (by omega))
  (fun m i hi => by
   simp (disch := omega) only [zq50, zq4t, c_pos, c_inb, i64_in, Int.toNat_natCast]
   unfold inB
   by_cases h1 : ((s.getD i 0).toNat : Int) < 32
   ·rw [decide_eq_true h1, decide_eq_false (show ¬ (32 : Int) ≤ ((s.getD i 0).toNat : Int) by omega)]; rfl
   ·rw [decide_eq_false h1, decide_eq_true (show (32 : Int) ≤ ((s.getD i 0).toNat : Int) by omega)]
    by_cases h2 : (126 : Int) < ((s.getD i 0).toNat : Int)
    ·rw [decide_eq_true h2, decide_eq_false (show ¬ ((s.getD i 0).toNat : Int) ≤ 126 by omega)]; rfl
    ·rw [decide_eq_false h2, decide_eq_true (show ((s.getD i 0).toNat : Int) ≤ 126 by omega)]; rfl)
  (fun m => by simp (disch := omega) only [zq50, zq4t, c_neg, rin_eq])
 unfold zq53 zq4w
 refine Eq.trans ?_ (h.trans ?_)
 ·rfl
 ·unfold textB
  rw [c_kb]
theorem iset_eq (l : List Int) (lo hi : Int) (hl : l.length ≤ 1000000) (k : Bool → Option β) : zqem l lo hi k = k (setB l lo hi) := by
 have h := scan_state l.length (fun _ => ()) (setI l lo hi) (fun m i _ => zqei m (fun (t6 : Bool) => k t6) (fun (_ : Unit) => k true) l lo hi l (l.length : Int) i) (k true) (k false) fuel (lt_fuel (by omega))
  (fun m i hi' => by
   simp (disch := omega) only [zqej, zqec, iin_eq, c_pos, c_inb, i64_in, Int.toNat_natCast, c_not]
   unfold setI
   cases inB (l.getD i 0) lo hi with
   | false => rfl
   | true =>
    cases i with
    | zero => rfl
    | succ j =>
     refine (c_pos (by omega)).trans ?_
     have e : ((((j + 1 : Nat)) : Int) - 1) = (j : Int) := by omega
     rw [e]
     refine (c_inb (by omega)).trans ?_
     rw [Int.toNat_natCast, decide_eq_true (show 0 < j + 1 by omega), show j + 1 - 1 = j by omega]
     cases decide (l.getD (j + 1) 0 ≤ l.getD j 0) <;> rfl)
  (fun m => by simp (disch := omega) only [zqej, zqec, c_neg])
 unfold zqem zqef
 refine Eq.trans ?_ (h.trans ?_)
 ·rfl
 ·unfold setB
  cases (List.range l.length).all (setI l lo hi) <;> rfl
theorem ipersons_eq (l : List Int) (hl : l.length ≤ 1000000) (k : Bool → Option β) : zqeu l k = k (setB l 0 31) := by
 unfold zqeu zqer
 exact iset_eq l 0 31 hl _
theorem rset_eq (l : List Int) (hl : l.length ≤ 1000000) (k : Bool → Option β) : zq5w l 32 k = k (setB l 0 31) := by
 have h := scan_state l.length (fun _ => ()) (setI l 0 31) (fun m i _ => zq5s m (fun (t6 : Bool) => k t6) (fun (_ : Unit) => k true) l 32 i) (k true) (k false) fuel (lt_fuel (by omega))
  (fun m i hi' => by
   simp (disch := omega) only [zq5t, zq5m, c_pos, c_inb, i64_in, Int.toNat_natCast]
   unfold setI inB
   by_cases h1 : l.getD i 0 < 0
   ·rw [decide_eq_true h1, decide_eq_false (show ¬ (0 : Int) ≤ l.getD i 0 by omega)]; rfl
   rw [decide_eq_false h1, decide_eq_true (show (0 : Int) ≤ l.getD i 0 by omega)]
   by_cases h2 : (32 : Int) ≤ l.getD i 0
   ·rw [decide_eq_true h2, decide_eq_false (show ¬ l.getD i 0 ≤ 31 by omega)]; rfl
   rw [decide_eq_false h2, decide_eq_true (show l.getD i 0 ≤ 31 by omega)]
   cases i with
   | zero => rfl
   | succ j =>
    refine c_f.trans (c_f.trans ?_)
    refine (c_pos (by omega)).trans ?_
    have e : ((((j + 1 : Nat)) : Int) - 1) = (j : Int) := by omega
    rw [e]
    refine (c_inb (by omega)).trans ?_
    rw [Int.toNat_natCast, decide_eq_true (show 0 < j + 1 by omega), show j + 1 - 1 = j by omega]
    cases decide (l.getD (j + 1) 0 ≤ l.getD j 0) <;> rfl)
  (fun m => by simp (disch := omega) only [zq5t, zq5m, c_neg])
 unfold zq5w zq5p zq5u
 refine Eq.trans h ?_
 ·unfold setB
  cases (List.range l.length).all (setI l 0 31) <;> rfl
end
end
end Go.Lift
