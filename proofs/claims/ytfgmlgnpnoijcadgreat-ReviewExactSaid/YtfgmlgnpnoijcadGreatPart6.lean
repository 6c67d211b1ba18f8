/- Part6: LiftUc, Fn0. -/
import Derived.Test.YtfgmlgnpnoijcadGreatProg
import Derived.Test.YtfgmlgnpnoijcadGreatPart5
set_option linter.unusedVariables false
set_option linter.unusedSimpArgs false
namespace Go.Lift
open Go.RowKit
universe u
theorem Qje {α : Sort u} (a : α) : ∃ v : α, v = a := ⟨a, rfl⟩
noncomputable def hid {α : Sort u} (a : α) : α := Classical.choose (Qje a)
theorem Q0 {α : Sort u} (a : α) : hid a = a := Classical.choose_spec (Qje a)
@[reducible] def CT.Fn (R : Type) : List CT → Type
 | [] => R
 | .data τ :: r => τ.den → CT.Fn R r
 | .lsome e :: r => List e.den → CT.Fn R r
 | .ptr _ _ :: r | .rowh _ :: r | .fn _ _ :: r | .maph _ :: r | .math _ :: r | .bself _ :: r | .nilc :: r | .nils :: r | .junk :: r => CT.Fn R r
@[reducible] def ST.Fn (R : Type) : List (Bool × List CT) → Type
 | [] => R
 | t :: r => CT.Fn (ST.Fn R r) t.2
@[reducible] def BT.Fn (R : Type) : List BT → Type
 | [] => R
 | .cells _ l :: r => CT.Fn (BT.Fn R r) l
 | .row _ e :: r => List e.den → BT.Fn R r
 | .map _ k v _ :: r => List (k.den × v.den) → BT.Fn R r
 | .mat _ _ e :: r => List (List e.den) → BT.Fn R r
def CT.app {R : Type} : (l : List CT) → CT.Fn R l → CT.dens l → R
 | [], f, _ => f
 | .data _ :: r, f, d => CT.app r (f d.1) d.2
 | .lsome _ :: r, f, d => CT.app r (f d.1) d.2
 | .ptr _ _ :: r, f, d | .rowh _ :: r, f, d | .fn _ _ :: r, f, d | .maph _ :: r, f, d | .math _ :: r, f, d | .bself _ :: r, f, d | .nilc :: r, f, d | .nils :: r, f, d | .junk :: r, f, d => CT.app r f d
def ST.app {R : Type} : (l : List (Bool × List CT)) → ST.Fn R l → ST.dens l → R
 | [], f, _ => f
 | t :: r, f, d => ST.app r (CT.app t.2 f d.1) d.2
def BT.app {R : Type} : (l : List BT) → BT.Fn R l → BT.dens l → R
 | [], f, _ => f
 | .cells _ l :: r, f, d => BT.app r (CT.app l f d.1) d.2
 | .row _ _ :: r, f, d => BT.app r (f d.1) d.2
 | .map _ _ _ _ :: r, f, d => BT.app r (f d.1) d.2
 | .mat _ _ _ :: r, f, d => BT.app r (f d.1) d.2
def CT.lam {R : Type} : (l : List CT) → (CT.dens l → R) → CT.Fn R l
 | [], f => f ()
 | .data _ :: r, f => fun x => CT.lam r fun d => f (x, d)
 | .lsome _ :: r, f => fun x => CT.lam r fun d => f (x, d)
 | .ptr _ _ :: r, f | .rowh _ :: r, f | .fn _ _ :: r, f | .maph _ :: r, f | .math _ :: r, f | .bself _ :: r, f | .nilc :: r, f | .nils :: r, f | .junk :: r, f => CT.lam r f
def ST.lam {R : Type} : (l : List (Bool × List CT)) → (ST.dens l → R) → ST.Fn R l
 | [], f => f ()
 | t :: r, f => CT.lam t.2 fun a => ST.lam r fun d => f (a, d)
def BT.lam {R : Type} : (l : List BT) → (BT.dens l → R) → BT.Fn R l
 | [], f => f ()
 | .cells _ l :: r, f => CT.lam l fun a => BT.lam r fun d => f (a, d)
 | .row _ _ :: r, f => fun x => BT.lam r fun d => f (x, d)
 | .map _ _ _ _ :: r, f => fun x => BT.lam r fun d => f (x, d)
 | .mat _ _ _ :: r, f => fun x => BT.lam r fun d => f (x, d)
@[reducible] def VF (R : Type) (s : List (Bool × List CT)) (b : List BT) : Type := ST.Fn (BT.Fn R b) s
def vapp {R : Type} (s : List (Bool × List CT)) (b : List BT) (f : VF R s b) (d : ST.dens s × BT.dens b) : R := BT.app b (ST.app s f d.1) d.2
def vlam {R : Type} (s : List (Bool × List CT)) (b : List BT) (g : ST.dens s × BT.dens b → R) : VF R s b := ST.lam s fun x => BT.lam b fun y => g (x, y)
def CT.some? : List CT → Bool
 | [] => false
 | .data _ :: _ => true
 | .lsome _ :: _ => true
 | .ptr _ _ :: r | .rowh _ :: r | .fn _ _ :: r | .maph _ :: r | .math _ :: r | .bself _ :: r | .nilc :: r | .nils :: r | .junk :: r => CT.some? r
def ST.some? : List (Bool × List CT) → Bool
 | [] => false
 | t :: r => CT.some? t.2 || ST.some? r
def BT.some? : List BT → Bool
 | [] => false
 | .cells _ l :: r => CT.some? l || BT.some? r
 | _ :: _ => true
@[reducible] def selT (A B : Type) : Bool → Type
 | true => A
 | false => B
@[reducible] def KF (R : Type) (s : List (Bool × List CT)) (b : List BT) : Type := selT (VF R s b) (Unit → VF R s b) (ST.some? s || BT.some? b)
def selk {R : Type} {s : List (Bool × List CT)} {b : List BT} (f : VF R s b) : (c : Bool) → selT (VF R s b) (Unit → VF R s b) c
 | true => f
 | false => fun _ => f
def klam {R : Type} (s : List (Bool × List CT)) (b : List BT) (g : ST.dens s × BT.dens b → R) : KF R s b := selk (vlam s b g) _
def sgE (ps : List (Bool × List CT)) (is : List BT) (rs : List (Bool × List CT)) (os : List BT) (f : (β : Type) → VF (KF (Option β) rs os → Option β) ps is) : Spec :=
 ⟨ps, is, rs, os, fun {β} x k => vapp ps is (f β) x (klam rs os k)⟩
abbrev sg (ps : List (Bool × List CT)) (is : List BT) (rs : List (Bool × List CT)) (os : List BT) (f : {β : Type} → VF (KF (Option β) rs os → Option β) ps is) : Spec := sgE ps is rs os fun β => f (β := β)
theorem Qch {F : Type → Type} (s : (β : Type) → F β) : (fun β => hid (s β)) = s := funext fun β => Q0 (s β)
@[reducible] def OF (β R : Type) : List (AExit × View) → Type
 | [] => R
 | x :: r => KF (Option β) x.2.params x.2.ins → OF β R r
def oapp {β R : Type} : (l : List (AExit × View)) → OF β R l → Outs.K β l → R
 | [], f, _ => f
 | x :: r, f, ks => oapp r (f (klam x.2.params x.2.ins ks.1)) ks.2
abbrev Pc.T (p : Pc) (β : Type) : Type := OF β (VF (Option β) p.v.params p.v.ins) p.o
def Pc.un (p : Pc) (f : (β : Type) → p.T β) : p.G := fun {β} d ks => vapp _ _ (oapp p.o (f β) ks) d
def Qon (P : Program) (f : Nat) : Fun → Prop
 | .spec S => SpecOk P f S
 | .rows F => RowOk P f F
 | .bld F => BldOk P f F
structure Ent (P : Program) where
 no : Nat
 F : Fun
 ok : Qon P no F
def Ent.of {P : Program} {no : Nat} {S : Spec} (h : SpecOk P no S) : Ent P := ⟨no, .spec S, h⟩
@[reducible] def gam {P : Program} (l : List (Ent P)) : Nat → Option Fun := Q1l (l.map fun e => (e.no, e.F))
theorem Q7i {P : Program} : ∀ l : List (Ent P), ΓOk P (gam l)
 | [] => ΓOk_nil
 | ⟨_, .spec _, h⟩ :: l => ΓOk_cons h (Q7i l)
 | ⟨_, .rows _, h⟩ :: l => ΓOk_row h (Q7i l)
 | ⟨_, .bld _, h⟩ :: l => ΓOk_bld h (Q7i l)
structure PB (P : Program) where
 q : Nat
 p : Pc
 f : (β : Type) → p.T β
 ok : p.Ok P (p.un f)
@[reducible] def cuts {P : Program} (l : List (PB P)) : Nat → Option Cut := Q1l (l.map fun b => (b.q, b.p.cut (b.p.un b.f)))
theorem Q9q {P : Program} {n m q : Nat} {c : Code} : ∀ {l : List (PB P)}, l.map (fun b => (find b.q q c, b.p.v.m, b.p.n, b.p.m)) = l.map (fun b => ([b.p.c], m, n, m)) → Q68 P n m q c (cuts l)
 | [], _ => Qia
 | b :: l, h => by
  simp only [List.map_cons, List.cons.injEq, Prod.mk.injEq] at h
  obtain ⟨⟨h1, h2, h3, h4⟩, h5⟩ := h
  have hb := b.ok
  unfold Pc.Ok at hb
  rw [h3, h4] at hb
  exact Qgo h1 h2 hb (Q9q h5)
theorem Q7j {P : Program} (hmx : P.follows .mixedOrders = true) {X : Ctx} (hT : TOk P X.T) (es : List (Ent P)) (hX : X.Γ = gam es) (cs : List (PB P)) {ps rs : List (Bool × List CT)} {is os : List BT} {f : FuncId} {fn : Func}
  (vs : List RS) {s : (β : Type) → VF (KF (Option β) rs os → Option β) ps is} (hf : P.funcs[f]? = some fn)
  (hc : ((fn.name == "runtime.NumGoroutine"), fn.body, fn.results.toList, (Nat.beq vs.length rs.length && (ST.tidy rs && Nat.ble ps.length fn.ntmps)), cs.map (fun b => (find b.q 1 (Q2 fn), b.p.v.m, b.p.n, b.p.m)))
   = (false, some (Q2 fn), vs.map RS.toVar, true, cs.map (fun b => ([b.p.c], is.length, fn.ntmps, is.length))))
  (h : ∀ {β : Type} (x : ST.dens ps × BT.dens is) (k : ST.dens rs × BT.dens os → Option β), exec X fn.ntmps (cuts cs) 1 (Q2 fn) ((vIn (sgE ps is rs os s)).mk' x) (retK X.T (sgE ps is rs os s) vs k) = vapp ps is (s β) x (klam rs os k)) :
  SpecOk P f (sgE ps is rs os fun β => hid (s β)) := by
 simp only [Prod.mk.injEq] at hc
 obtain ⟨h1, h2, h3, h4, h5⟩ := hc
 rw [Qch]
 exact pcS hmx X hT (hX ▸ Q7i es) (cuts cs) vs hf h1 h2 h3 h4 (Q9q h5) h
theorem Q1n {P : Program} (hmx : P.follows .mixedOrders = true) {X : Ctx} (hT : TOk P X.T) (es : List (Ent P)) (hX : X.Γ = gam es) (cs : List (PB P)) {p : Pc} {g : Nat → (β : Type) → p.T β}
  (hc : ((p.o.all fun x => Nat.beq x.2.m p.m), cs.map (fun b => (find b.q 1 (Qb p.c), b.p.v.m, b.p.n, b.p.m))) = (true, cs.map (fun b => ([b.p.c], p.m, p.n, p.m)))) (hv : p.v.m = p.m) (hl : p.c = .loop (Qb p.c))
  (h0 : ∀ {β : Type} (d : p.v.den) (ks : Outs.K β p.o), p.un (g 0) d ks = none)
  (h : ∀ (i : Nat) {β : Type} (d : p.v.den) (ks : Outs.K β p.o), exec X p.n (cuts cs) 1 (Qb p.c) (p.v.mk' d) (Qbi p.v (fun d' => p.un (g i) d' ks) p.o ks) = p.un (g (i + 1)) d ks) : p.Ok P (p.un fun β => hid (g fuel β)) := by
 simp only [Prod.mk.injEq] at hc
 rw [Qch]
 exact pcL hmx X hT (hX ▸ Q7i es) (G := fun i => p.un (g i)) (cuts cs) hl hv hc.1 (Q9q hc.2) h0 h fuel
theorem Qic {P : Program} (hmx : P.follows .mixedOrders = true) {X : Ctx} (hT : TOk P X.T) (es : List (Ent P)) (hX : X.Γ = gam es) (cs : List (PB P)) (q : Nat) {p : Pc} {g : (β : Type) → p.T β}
  (hc : ((p.o.all fun x => Nat.beq x.2.m p.m), cs.map (fun b => (find b.q q p.c, b.p.v.m, b.p.n, b.p.m))) = (true, cs.map (fun b => ([b.p.c], p.m, p.n, p.m))))
  (h : ∀ {β : Type} (d : p.v.den) (ks : Outs.K β p.o), exec X p.n (cuts cs) q p.c (p.v.mk' d) (outK p.o ks) = p.un g d ks) : p.Ok P (p.un fun β => hid (g β)) := by
 simp only [Prod.mk.injEq] at hc
 rw [Qch]
 exact pcE hmx X hT (hX ▸ Q7i es) q (cuts cs) hc.1 (Q9q hc.2) h
end Go.Lift
namespace Go.Lift
open Go.Proofs
noncomputable section
set_option maxRecDepth 100000
set_option linter.unusedVariables false
abbrev zq0 := (Int × (Bool × List (Int × Int)))
abbrev zq1 : Ty := (.prod (.int .i64) (.prod .bool (.slice (.prod (.int .i64) (.int .i64)))))
abbrev zq2 := (List UInt8 × (List zq0 × Int))
abbrev zq3 : Ty := (.prod .str (.prod (.slice zq1) (.int .i64)))
abbrev zq4 := (List (List UInt8 × List Int) × List zq2)
abbrev zq5 : Ty := (.prod (.slice (.prod .str (.slice (.int .i64)))) (.slice zq3))
abbrev zq6 := (List UInt8 × (Int × List Int))
abbrev zq7 : Ty := (.prod .str (.prod (.int .i64) (.slice (.int .i64))))
abbrev zq8 := (Int × (Int × List UInt8))
abbrev zq9 : Ty := (.prod (.int .i64) (.prod (.int .i64) .str))
abbrev zqa := (List UInt8 × (Int × ((Int × Int) × (Int × (Int × (List Int × (List (Int × Int) × (Int × Int))))))))
abbrev zqb : Ty := (.prod .str (.prod (.int .i64) (.prod (.prod (.int .i64) (.int .i64)) (.prod (.int .i64) (.prod (.int .i64) (.prod (.slice (.int .i64)) (.prod (.slice (.prod (.int .i64) (.int .i64))) (.prod (.int .i64) (.int .i64)))))))))
abbrev zqc := (Int × (Int × (Int × Int)))
abbrev zqd : Ty := (.prod (.int .i64) (.prod (.int .i64) (.prod (.int .i64) (.int .i64))))
abbrev zqe := (List UInt8 × (List zqa × List (Int × zqc)))
abbrev zqf : Ty := (.prod .str (.prod (.slice zqb) (.slice (.prod (.int .i64) zqd))))
abbrev zqg := (Int × (Int × (Int × zqc)))
abbrev zqh : Ty := (.prod (.int .i64) (.prod (.int .i64) (.prod (.int .i64) zqd)))
abbrev zqi := (List UInt8 × (Int × List zqg))
abbrev zqj : Ty := (.prod .str (.prod (.int .i64) (.slice zqh)))
abbrev zqk := (List UInt8 × (Int × (List (Int × Int) × (Int × (Int × Bool)))))
abbrev zql : Ty := (.prod .str (.prod (.int .i64) (.prod (.slice (.prod (.int .i64) (.int .i64))) (.prod (.int .i64) (.prod (.int .i64) .bool)))))
abbrev zqm := (List zqi × (List zqk × (List zq6 × List zqe)))
abbrev zqn : Ty := (.prod (.slice zqj) (.prod (.slice zql) (.prod (.slice zq7) (.slice zqf))))
abbrev zqo := (List (List UInt8 × Int) × (List zqc × (List zq8 × List (Int × (Int × Int)))))
abbrev zqp : Ty := (.prod (.slice (.prod .str (.int .i64))) (.prod (.slice zqd) (.prod (.slice zq9) (.slice (.prod (.int .i64) (.prod (.int .i64) (.int .i64)))))))
abbrev zqq := (List UInt8 × (Int × (Int × Int)))
abbrev zqr : Ty := (.prod .str (.prod (.int .i64) (.prod (.int .i64) (.int .i64))))
abbrev zqs := (Int × (Int × (List UInt8 × List Int)))
abbrev zqt : Ty := (.prod (.int .i64) (.prod (.int .i64) (.prod .str (.slice (.int .i64)))))
abbrev zqu := (Int × ((Int × Int) × ((Int × Int) × ((Int × Int) × (Int × (Int × Int))))))
abbrev zqv : Ty := (.prod (.int .i64) (.prod (.prod (.int .i64) (.int .i64)) (.prod (.prod (.int .i64) (.int .i64)) (.prod (.prod (.int .i64) (.int .i64)) (.prod (.int .i64) (.prod (.int .i64) (.int .i64)))))))
abbrev zqw := (Int × (Int × (Int × (Int × (List UInt8 × ((Int × (Int × Int)) × (List Int × (List zqq × (List zqs × (List Int × (List (Int × (Int × Int)) × Int)))))))))))
abbrev zqx : Ty := (.prod (.int .i64) (.prod (.int .i64) (.prod (.int .i64) (.prod (.int .i64) (.prod .str (.prod (.prod (.int .i64) (.prod (.int .i64) (.int .i64))) (.prod (.slice (.int .i64)) (.prod (.slice zqr) (.prod (.slice zqt) (.prod (.slice (.int .i64)) (.prod (.slice (.prod (.int .i64) (.prod (.int .i64) (.int .i64)))) (.int .i64))))))))))))
abbrev zqy := (Int × (Int × (Int × (Int × (Int × (Int × (Int × (Int × (Int × (Int × (Int × (List (Int × (Int × List Int)) × (List Int × List Int)))))))))))))
abbrev zqz : Ty := (.prod (.int .i64) (.prod (.int .i64) (.prod (.int .i64) (.prod (.int .i64) (.prod (.int .i64) (.prod (.int .i64) (.prod (.int .i64) (.prod (.int .i64) (.prod (.int .i64) (.prod (.int .i64) (.prod (.int .i64) (.prod (.slice (.prod (.int .i64) (.prod (.int .i64) (.slice (.int .i64))))) (.prod (.slice (.int .i64)) (.slice (.int .i64)))))))))))))))
abbrev zq10 : zq8 := ((0 : Int), ((0 : Int), ([] : List UInt8)))
abbrev zq11 : zq0 := ((0 : Int), (false, ([] : List (Int × Int))))
abbrev zq12 : zqc := ((0 : Int), ((0 : Int), ((0 : Int), (0 : Int))))
abbrev zq13 : zq6 := (([] : List UInt8), ((0 : Int), ([] : List Int)))
abbrev zq14 : zqq := (([] : List UInt8), ((0 : Int), ((0 : Int), (0 : Int))))
abbrev zq15 : zqi := (([] : List UInt8), ((0 : Int), ([] : List zqg)))
abbrev zq16 : zq2 := (([] : List UInt8), (([] : List zq0), (0 : Int)))
abbrev zq17 : zq4 := (([] : List (List UInt8 × List Int)), ([] : List zq2))
abbrev zq18 : zqs := ((0 : Int), ((0 : Int), (([] : List UInt8), ([] : List Int))))
abbrev zq19 : zqe := (([] : List UInt8), (([] : List zqa), ([] : List (Int × zqc))))
abbrev zq1a : zqg := ((0 : Int), ((0 : Int), ((0 : Int), ((0 : Int), ((0 : Int), ((0 : Int), (0 : Int)))))))
abbrev zq1b : zqk := (([] : List UInt8), ((0 : Int), (([] : List (Int × Int)), ((0 : Int), ((0 : Int), false)))))
abbrev zq1c : zqm := (([] : List zqi), (([] : List zqk), (([] : List zq6), ([] : List zqe))))
abbrev zq1d : zqo := (([] : List (List UInt8 × Int)), (([] : List zqc), (([] : List zq8), ([] : List (Int × (Int × Int))))))
abbrev zq1e : zqu := ((0 : Int), (((0 : Int), (0 : Int)), (((0 : Int), (0 : Int)), (((0 : Int), (0 : Int)), ((0 : Int), ((0 : Int), (0 : Int)))))))
abbrev zq1f : zqa := (([] : List UInt8), ((0 : Int), (((0 : Int), (0 : Int)), ((0 : Int), ((0 : Int), (([] : List Int), (([] : List (Int × Int)), ((0 : Int), (0 : Int)))))))))
abbrev zq1g : zqy := ((0 : Int), ((0 : Int), ((0 : Int), ((0 : Int), ((0 : Int), ((0 : Int), ((0 : Int), ((0 : Int), ((0 : Int), ((0 : Int), ((0 : Int), (([] : List (Int × (Int × List Int))), (([] : List Int), ([] : List Int))))))))))))))
abbrev zq1h : zqw := ((0 : Int), ((0 : Int), ((0 : Int), ((0 : Int), (([] : List UInt8), (((0 : Int), ((0 : Int), (0 : Int))), (([] : List Int), (([] : List zqq), (([] : List zqs), (([] : List Int), (([] : List (Int × (Int × Int))), (0 : Int))))))))))))
abbrev t0y := Int × Int
abbrev t1y := List Int × Int
abbrev t2y := Int × t0y
abbrev t3y := List Int
abbrev t4y := Int × (Int × List Int)
abbrev t5y := List UInt8 × Int
abbrev t6y := List UInt8 × List Int
abbrev t7y := List UInt8
abbrev t8y := Int × zqc
abbrev t9y := List t2y
abbrev t10y := List t0y
abbrev t11y := List zq8
abbrev t12y := List zqu
abbrev t13y := List zqc
abbrev t14y := List t3y
abbrev t15y := List zqe
abbrev t16y := List zq6
abbrev t17y := List zq2
abbrev t18y := List zqk
abbrev t19y := List zqi
abbrev t20y := List zqs
abbrev t21y := List zqy
abbrev t22y := Int × t8y
abbrev t23y := List t5y
abbrev t24y := List t6y
abbrev t25y := List zqq
abbrev t26y := List t7y
abbrev b27y : Bool × List CT := (false, [.data (.int .i64)])
abbrev b28y : BT := .cells 91 [.data (.prod (.slice (.int .i64)) (.int .i64))]
abbrev b29y : Bool × List CT := (false, [.ptr 0 0])
abbrev b30y : Bool × List CT := (false, [.data .bool])
abbrev b31y : Bool × List CT := (false, [.data (.slice (.prod (.int .i64) (.int .i64)))])
abbrev b32y : BT := .cells 46 [.data zqx]
abbrev b33y : Bool × List CT := (false, [.data (.slice (.prod (.int .i64) (.prod (.int .i64) (.int .i64))))])
abbrev b34y : Bool × List CT := (false, [.ptr 1 0])
abbrev b35y : Bool × List CT := (true, [.data (.prod (.int .i64) (.int .i64))])
abbrev b36y : BT := .cells 59 [.data zqv]
abbrev b37y : Bool × List CT := (false, [.ptr 2 0])
abbrev b38y : BT := .cells 52 [.data zqz]
abbrev b39y : BT := .cells 68 [.data zqp]
abbrev b40y : BT := .cells 34 [.data zqn]
abbrev b41y : BT := .cells 57 [.data (.prod (.int .i64) (.int .i64))]
abbrev b42y : Bool × List CT := (false, [.data (.slice (.int .i64))])
abbrev b43y : Bool × List CT := (true, [.data zqx])
abbrev b44y : Bool × List CT := (false, [.data (.slice zqv)])
abbrev b45y : Bool × List CT := (false, [.rowh 1])
abbrev b46y : BT := .cells 136 [.data (.prod (.int .i64) (.prod (.int .i64) zqd))]
abbrev b47y : Bool × List CT := (true, [.data zqn])
abbrev b48y : BT := .cells 52 [.data (.int .i64), .data (.int .i64), .data (.int .i64), .data (.int .i64), .data (.int .i64), .data (.int .i64), .data (.int .i64), .data (.int .i64), .data (.int .i64), .data (.int .i64), .data (.int .i64), .rowh 5, .rowh 6, .rowh 7]
abbrev b49y : Bool × List CT := (true, [.data zqp])
abbrev b50y : Bool × List CT := (false, [.rowh 0])
abbrev b51y : Bool × List CT := (false, [.ptr 3 0])
abbrev b52y : Bool × List CT := (false, [.rowh 2])
abbrev b53y : BT := .cells 68 [.rowh 8, .rowh 9, .rowh 10, .rowh 11]
abbrev b54y : BT := .cells 68 [.rowh 4, .rowh 5, .rowh 6, .rowh 7]
abbrev b55y : BT := .cells 104 [.data zqb]
abbrev b56y : BT := .cells 39 [.data zq5]
abbrev b57y : Bool × List CT := (false, [.data (.slice zqz)])
abbrev b58y : Bool × List CT := (true, [.data zqz])
abbrev b59y : BT := .cells 102 [.data (.prod (.int .i64) (.int .i64))]
abbrev b60y : Bool × List CT := (false, [.data (.slice (.prod (.int .i64) zqd))])
abbrev b61y : Bool × List CT := (true, [.data zqj])
abbrev b62y : Bool × List CT := (false, [.rowh 3])
abbrev b63y : Bool × List CT := (false, [.data .str])
abbrev b64y : BT := .cells 46 [.data (.int .i64), .data (.int .i64), .data (.int .i64), .data (.int .i64), .data .str, .data (.int .i64), .data (.int .i64), .data (.int .i64), .rowh 3, .rowh 4, .data (.slice zqt), .rowh 5, .rowh 6, .data (.int .i64)]
abbrev b65y : BT := .cells 94 [.data zqj]
abbrev b66y : BT := .cells 121 [.data (.prod (.int .i64) (.int .i64))]
abbrev b67y : BT := .cells 110 [.data (.prod (.int .i64) zqd)]
abbrev b68y : BT := .cells 46 [.data (.int .i64), .data (.int .i64), .data (.int .i64), .data (.int .i64), .data .str, .data (.int .i64), .data (.int .i64), .data (.int .i64), .rowh 4, .rowh 5, .rowh 6, .rowh 7, .rowh 8, .data (.int .i64)]
abbrev b69y : BT := .cells 146 [.data (.prod (.int .i64) (.prod (.int .i64) (.int .i64)))]
abbrev b70y : Bool × List CT := (true, [.data (.prod (.int .i64) (.prod (.int .i64) (.int .i64)))])
abbrev b71y : BT := .cells 3 [.data (.int .i64)]
abbrev b72y : Bool × List CT := (true, [.data (.prod (.int .i64) (.prod (.int .i64) zqd))])
abbrev b73y : Bool × List CT := (false, [.data (.slice zqh)])
abbrev b74y : BT := .cells 34 [.rowh 8, .rowh 9, .rowh 10, .rowh 11]
abbrev b75y : BT := .cells 104 [.data .str, .data (.int .i64), .data (.int .i64), .data (.int .i64), .data (.int .i64), .data (.int .i64), .rowh 12, .rowh 13, .data (.int .i64), .data (.int .i64)]
abbrev b76y : BT := .cells 34 [.rowh 4, .rowh 5, .rowh 6, .rowh 7]
abbrev b77y : Bool × List CT := (false, [.data (.slice (.slice (.int .i64)))])
abbrev b78y : Bool × List CT := (false, [.ptr 4 0])
abbrev b79y : Bool × List CT := (true, [.data zq5])
abbrev b80y : Bool × List CT := (true, [.data zqb])
abbrev b81y : Bool × List CT := (false, [.data (.slice zq9)])
abbrev b82y : BT := .cells 108 [.data zqf]
abbrev b83y : BT := .cells 34 [.rowh 7, .rowh 8, .rowh 9, .rowh 10]
abbrev b84y : BT := .cells 266 [.data zq7]
abbrev b85y : BT := .cells 34 [.rowh 3, .rowh 4, .rowh 5, .rowh 6]
abbrev b86y : BT := .cells 152 [.data zq9]
def tab : List (Nat × TI) := [
 (3, ⟨false, 1, 8, [.int .i64 (0 : Int)], [], none, none, (some (.int .i64)), (some .i64), false, false, none, none⟩),
 (4, ⟨false, 1, 1, [.bool false], [], none, none, (some .bool), none, true, false, none, none⟩),
 (5, ⟨false, 1, 1, [.int .u8 (0 : Int)], [], none, none, (some (.int .u8)), (some .u8), false, false, none, none⟩),
 (9, ⟨false, 1, 16, [.str ([] : List UInt8)], [], none, none, (some .str), none, false, true, none, none⟩),
 (22, ⟨false, 1, 24, [.nils], [], (some 3), none, (some (.slice (.int .i64))), none, false, false, none, none⟩),
 (23, ⟨false, 1, 24, [.nils], [], (some 57), none, (some (.slice (.prod (.int .i64) (.int .i64)))), none, false, false, none, none⟩),
 (24, ⟨false, 1, 24, [.nils], [], (some 59), none, (some (.slice zqv)), none, false, false, none, none⟩),
 (29, ⟨false, 1, 24, [.nils], [], (some 94), none, (some (.slice zqj)), none, false, false, none, none⟩),
 (30, ⟨false, 1, 24, [.nils], [], (some 98), none, (some (.slice zql)), none, false, false, none, none⟩),
 (31, ⟨false, 1, 24, [.nils], [], (some 266), none, (some (.slice zq7)), none, false, false, none, none⟩),
 (32, ⟨false, 1, 24, [.nils], [], (some 108), none, (some (.slice zqf)), none, false, false, none, none⟩),
 (34, ⟨true, 4, 96, [.nils, .nils, .nils, .nils], [(0, 1, false), (1, 1, false), (2, 1, false), (3, 1, false)], none, none, (some zqn), none, false, false, none, none⟩),
 (36, ⟨false, 1, 24, [.nils], [], (some 113), none, (some (.slice (.prod .str (.slice (.int .i64))))), none, false, false, none, none⟩),
 (37, ⟨false, 1, 24, [.nils], [], (some 116), none, (some (.slice zq3)), none, false, false, none, none⟩),
 (39, ⟨true, 2, 48, [.nils, .nils], [(0, 1, false), (1, 1, false)], none, none, (some zq5), none, false, false, none, none⟩),
 (41, ⟨true, 3, 24, [.int .i64 (0 : Int), .int .i64 (0 : Int), .int .i64 (0 : Int)], [], (some 3), (some 3), (some (.prod (.int .i64) (.prod (.int .i64) (.int .i64)))), none, false, false, (some [.i, .i, .i]), none⟩),
 (42, ⟨false, 1, 24, [.nils], [], (some 177), none, (some (.slice zqr)), none, false, false, none, none⟩),
 (43, ⟨false, 1, 24, [.nils], [], (some 179), none, (some (.slice zqt)), none, false, false, none, none⟩),
 (44, ⟨false, 1, 24, [.nils], [], (some 146), none, (some (.slice (.prod (.int .i64) (.prod (.int .i64) (.int .i64))))), none, false, false, none, none⟩),
 (46, ⟨true, 14, 200, [.int .i64 (0 : Int), .int .i64 (0 : Int), .int .i64 (0 : Int), .int .i64 (0 : Int), .str ([] : List UInt8), .int .i64 (0 : Int), .int .i64 (0 : Int), .int .i64 (0 : Int), .nils, .nils, .nils, .nils, .nils, .int .i64 (0 : Int)], [(0, 1, false), (1, 1, false), (2, 1, false), (3, 1, false), (4, 1, false), (5, 3, true), (8, 1, false), (9, 1, false), (10, 1, false), (11, 1, false), (12, 1, false), (13, 1, false)], none, none, (some zqx), none, false, false, none, none⟩),
 (48, ⟨false, 1, 24, [.nils], [], (some 52), none, (some (.slice zqz)), none, false, false, none, none⟩),
 (50, ⟨false, 1, 24, [.nils], [], (some 143), none, (some (.slice (.prod (.int .i64) (.prod (.int .i64) (.slice (.int .i64)))))), none, false, false, none, none⟩),
 (52, ⟨true, 14, 160, [.int .i64 (0 : Int), .int .i64 (0 : Int), .int .i64 (0 : Int), .int .i64 (0 : Int), .int .i64 (0 : Int), .int .i64 (0 : Int), .int .i64 (0 : Int), .int .i64 (0 : Int), .int .i64 (0 : Int), .int .i64 (0 : Int), .int .i64 (0 : Int), .nils, .nils, .nils], [(0, 1, false), (1, 1, false), (2, 1, false), (3, 1, false), (4, 1, false), (5, 1, false), (6, 1, false), (7, 1, false), (8, 1, false), (9, 1, false), (10, 1, false), (11, 1, false), (12, 1, false), (13, 1, false)], none, none, (some zqz), none, false, false, none, none⟩),
 (55, ⟨false, 1, 24, [.nils], [], (some 46), none, (some (.slice zqx)), none, false, false, none, none⟩),
 (57, ⟨true, 2, 16, [.int .i64 (0 : Int), .int .i64 (0 : Int)], [(0, 1, false), (1, 1, false)], none, none, (some (.prod (.int .i64) (.int .i64))), none, false, false, (some [.i, .i]), none⟩),
 (59, ⟨true, 10, 80, [.int .i64 (0 : Int), .int .i64 (0 : Int), .int .i64 (0 : Int), .int .i64 (0 : Int), .int .i64 (0 : Int), .int .i64 (0 : Int), .int .i64 (0 : Int), .int .i64 (0 : Int), .int .i64 (0 : Int), .int .i64 (0 : Int)], [(0, 1, false), (1, 2, true), (3, 2, true), (5, 2, true), (7, 1, false), (8, 1, false), (9, 1, false)], none, none, (some zqv), none, false, false, (some [.i, .i, .i, .i, .i, .i, .i, .i, .i, .i]), none⟩),
 (63, ⟨false, 1, 24, [.nils], [], (some 148), none, (some (.slice (.prod .str (.int .i64)))), none, false, false, none, none⟩),
 (64, ⟨false, 1, 24, [.nils], [], (some 150), none, (some (.slice zqd)), none, false, false, none, none⟩),
 (65, ⟨false, 1, 24, [.nils], [], (some 152), none, (some (.slice zq9)), none, false, false, none, none⟩),
 (66, ⟨false, 1, 24, [.nils], [], (some 154), none, (some (.slice (.prod (.int .i64) (.prod (.int .i64) (.int .i64))))), none, false, false, none, none⟩),
 (68, ⟨true, 4, 96, [.nils, .nils, .nils, .nils], [(0, 1, false), (1, 1, false), (2, 1, false), (3, 1, false)], none, none, (some zqp), none, false, false, none, none⟩),
 (72, ⟨false, 1, 24, [.nils], [], (some 68), none, (some (.slice zqp)), none, false, false, none, none⟩),
 (73, ⟨true, 2, 16, [.int .i64 (0 : Int), .int .i64 (0 : Int)], [], (some 3), (some 2), (some (.prod (.int .i64) (.int .i64))), none, false, false, (some [.i, .i]), none⟩),
 (74, ⟨false, 1, 24, [.nils], [], (some 73), none, (some (.slice (.prod (.int .i64) (.int .i64)))), none, false, false, none, none⟩),
 (80, ⟨false, 1, 24, [.nils], [], (some 23), none, (some (.slice (.slice (.prod (.int .i64) (.int .i64))))), none, false, false, none, none⟩),
 (83, ⟨true, 2, 16, [.int .i64 (0 : Int), .int .i64 (0 : Int)], [(0, 1, false), (1, 1, false)], none, none, (some (.prod (.int .i64) (.int .i64))), none, false, false, (some [.i, .i]), none⟩),
 (91, ⟨true, 2, 32, [.nils, .int .i64 (0 : Int)], [(0, 1, false), (1, 1, false)], none, none, (some (.prod (.slice (.int .i64)) (.int .i64))), none, false, false, none, none⟩),
 (92, ⟨false, 1, 24, [.nils], [], (some 277), none, (some (.slice zqh)), none, false, false, none, none⟩),
 (94, ⟨true, 3, 48, [.str ([] : List UInt8), .int .i64 (0 : Int), .nils], [(0, 1, false), (1, 1, false), (2, 1, false)], none, none, (some zqj), none, false, false, none, none⟩),
 (95, ⟨false, 1, 24, [.nils], [], (some 9), none, (some (.slice .str)), none, false, false, none, none⟩),
 (96, ⟨false, 1, 24, [.nils], [], (some 100), none, (some (.slice (.prod (.int .i64) (.int .i64)))), none, false, false, none, none⟩),
 (98, ⟨true, 6, 72, [.str ([] : List UInt8), .int .i64 (0 : Int), .nils, .int .i64 (0 : Int), .int .i64 (0 : Int), .bool false], [(0, 1, false), (1, 1, false), (2, 1, false), (3, 1, false), (4, 1, false), (5, 1, false)], none, none, (some zql), none, false, false, none, none⟩),
 (100, ⟨true, 2, 16, [.int .i64 (0 : Int), .int .i64 (0 : Int)], [(0, 1, false), (1, 1, false)], none, none, (some (.prod (.int .i64) (.int .i64))), none, false, false, (some [.i, .i]), none⟩),
 (102, ⟨true, 2, 16, [.int .i64 (0 : Int), .int .i64 (0 : Int)], [(0, 1, false), (1, 1, false)], none, none, (some (.prod (.int .i64) (.int .i64))), none, false, false, (some [.i, .i]), none⟩),
 (104, ⟨true, 10, 120, [.str ([] : List UInt8), .int .i64 (0 : Int), .int .i64 (0 : Int), .int .i64 (0 : Int), .int .i64 (0 : Int), .int .i64 (0 : Int), .nils, .nils, .int .i64 (0 : Int), .int .i64 (0 : Int)], [(0, 1, false), (1, 1, false), (2, 2, true), (4, 1, false), (5, 1, false), (6, 1, false), (7, 1, false), (8, 1, false), (9, 1, false)], none, none, (some zqb), none, false, false, none, none⟩),
 (105, ⟨false, 1, 24, [.nils], [], (some 104), none, (some (.slice zqb)), none, false, false, none, none⟩),
 (106, ⟨false, 1, 24, [.nils], [], (some 110), none, (some (.slice (.prod (.int .i64) zqd))), none, false, false, none, none⟩),
 (108, ⟨true, 3, 64, [.str ([] : List UInt8), .nils, .nils], [(0, 1, false), (1, 1, false), (2, 1, false)], none, none, (some zqf), none, false, false, none, none⟩),
 (110, ⟨true, 5, 40, [.int .i64 (0 : Int), .int .i64 (0 : Int), .int .i64 (0 : Int), .int .i64 (0 : Int), .int .i64 (0 : Int)], [(0, 1, false), (1, 1, false), (2, 1, false), (3, 1, false), (4, 1, false)], none, none, (some (.prod (.int .i64) zqd)), none, false, false, (some [.i, .i, .i, .i, .i]), none⟩),
 (113, ⟨true, 2, 40, [.str ([] : List UInt8), .nils], [(0, 1, false), (1, 1, false)], none, none, (some (.prod .str (.slice (.int .i64)))), none, false, false, none, none⟩),
 (114, ⟨false, 1, 24, [.nils], [], (some 119), none, (some (.slice zq1)), none, false, false, none, none⟩),
 (116, ⟨true, 3, 48, [.str ([] : List UInt8), .nils, .int .i64 (0 : Int)], [(0, 1, false), (1, 1, false), (2, 1, false)], none, none, (some zq3), none, false, false, none, none⟩),
 (117, ⟨false, 1, 24, [.nils], [], (some 121), none, (some (.slice (.prod (.int .i64) (.int .i64)))), none, false, false, none, none⟩),
 (119, ⟨true, 3, 40, [.int .i64 (0 : Int), .bool false, .nils], [(0, 1, false), (1, 1, false), (2, 1, false)], none, none, (some zq1), none, false, false, none, none⟩),
 (121, ⟨true, 2, 16, [.int .i64 (0 : Int), .int .i64 (0 : Int)], [(0, 1, false), (1, 1, false)], none, none, (some (.prod (.int .i64) (.int .i64))), none, false, false, (some [.i, .i]), none⟩),
 (136, ⟨true, 6, 48, [.int .i64 (0 : Int), .int .i64 (0 : Int), .int .i64 (0 : Int), .int .i64 (0 : Int), .int .i64 (0 : Int), .int .i64 (0 : Int)], [(0, 1, false), (1, 1, false), (2, 1, false), (3, 1, false), (4, 1, false), (5, 1, false)], none, none, (some (.prod (.int .i64) (.prod (.int .i64) zqd))), none, false, false, (some [.i, .i, .i, .i, .i, .i]), none⟩),
 (140, ⟨false, 1, 8, [.junk], [], none, none, none, none, false, false, none, (some (3, 4))⟩),
 (143, ⟨true, 3, 40, [.int .i64 (0 : Int), .int .i64 (0 : Int), .nils], [(0, 1, false), (1, 1, false), (2, 1, false)], none, none, (some (.prod (.int .i64) (.prod (.int .i64) (.slice (.int .i64))))), none, false, false, none, none⟩),
 (146, ⟨true, 3, 24, [.int .i64 (0 : Int), .int .i64 (0 : Int), .int .i64 (0 : Int)], [(0, 1, false), (1, 1, false), (2, 1, false)], none, none, (some (.prod (.int .i64) (.prod (.int .i64) (.int .i64)))), none, false, false, (some [.i, .i, .i]), none⟩),
 (148, ⟨true, 2, 24, [.str ([] : List UInt8), .int .i64 (0 : Int)], [(0, 1, false), (1, 1, false)], none, none, (some (.prod .str (.int .i64))), none, false, false, (some [.s, .i]), none⟩),
 (150, ⟨true, 4, 32, [.int .i64 (0 : Int), .int .i64 (0 : Int), .int .i64 (0 : Int), .int .i64 (0 : Int)], [(0, 1, false), (1, 1, false), (2, 1, false), (3, 1, false)], none, none, (some zqd), none, false, false, (some [.i, .i, .i, .i]), none⟩),
 (152, ⟨true, 3, 32, [.int .i64 (0 : Int), .int .i64 (0 : Int), .str ([] : List UInt8)], [(0, 1, false), (1, 1, false), (2, 1, false)], none, none, (some zq9), none, false, false, (some [.i, .i, .s]), none⟩),
 (154, ⟨true, 3, 24, [.int .i64 (0 : Int), .int .i64 (0 : Int), .int .i64 (0 : Int)], [(0, 1, false), (1, 1, false), (2, 1, false)], none, none, (some (.prod (.int .i64) (.prod (.int .i64) (.int .i64)))), none, false, false, (some [.i, .i, .i]), none⟩),
 (164, ⟨true, 2, 48, [.nils, .nils], [(0, 1, false), (1, 1, false)], none, none, (some (.prod (.slice (.int .i64)) (.slice (.int .i64)))), none, false, false, none, none⟩),
 (166, ⟨true, 2, 48, [.nils, .nils], [(0, 2, true)], none, none, (some (.prod (.slice (.int .i64)) (.slice (.int .i64)))), none, false, false, none, none⟩),
 (177, ⟨true, 4, 40, [.str ([] : List UInt8), .int .i64 (0 : Int), .int .i64 (0 : Int), .int .i64 (0 : Int)], [(0, 1, false), (1, 1, false), (2, 1, false), (3, 1, false)], none, none, (some zqr), none, false, false, (some [.s, .i, .i, .i]), none⟩),
 (179, ⟨true, 4, 56, [.int .i64 (0 : Int), .int .i64 (0 : Int), .str ([] : List UInt8), .nils], [(0, 1, false), (1, 1, false), (2, 1, false), (3, 1, false)], none, none, (some zqt), none, false, false, none, none⟩),
 (191, ⟨false, 1, 24, [.nils], [], (some 22), none, (some (.slice (.slice (.int .i64)))), none, false, false, none, none⟩),
 (192, ⟨false, 1, 24, [.nils], [], (some 22), none, (some (.slice (.slice (.int .i64)))), none, false, false, none, none⟩),
 (210, ⟨false, 1, 24, [.nils], [], (some 222), none, (some (.slice (.prod (.int .i64) (.prod (.int .i64) (.int .i64))))), none, false, false, none, none⟩),
 (222, ⟨true, 3, 24, [.int .i64 (0 : Int), .int .i64 (0 : Int), .int .i64 (0 : Int)], [(0, 1, false), (1, 1, false), (2, 1, false)], none, none, (some (.prod (.int .i64) (.prod (.int .i64) (.int .i64)))), none, false, false, (some [.i, .i, .i]), none⟩),
 (266, ⟨true, 3, 48, [.str ([] : List UInt8), .int .i64 (0 : Int), .nils], [(0, 1, false), (1, 1, false), (2, 1, false)], none, none, (some zq7), none, false, false, none, none⟩),
 (273, ⟨false, 1, 24, [.nils], [], (some 286), none, (some (.slice (.prod (.int .i64) (.int .i64)))), none, false, false, none, none⟩),
 (277, ⟨true, 7, 56, [.int .i64 (0 : Int), .int .i64 (0 : Int), .int .i64 (0 : Int), .int .i64 (0 : Int), .int .i64 (0 : Int), .int .i64 (0 : Int), .int .i64 (0 : Int)], [(0, 1, false), (1, 1, false), (2, 1, false), (3, 1, false), (4, 1, false), (5, 1, false), (6, 1, false)], none, none, (some zqh), none, false, false, (some [.i, .i, .i, .i, .i, .i, .i]), none⟩),
 (282, ⟨false, 1, 24, [.nils], [], (some 285), none, (some (.slice (.prod (.int .i64) (.int .i64)))), none, false, false, none, none⟩),
 (285, ⟨true, 2, 16, [.int .i64 (0 : Int), .int .i64 (0 : Int)], [(0, 1, false), (1, 1, false)], none, none, (some (.prod (.int .i64) (.int .i64))), none, false, false, (some [.i, .i]), none⟩),
 (286, ⟨true, 2, 16, [.int .i64 (0 : Int), .int .i64 (0 : Int)], [(0, 1, false), (1, 1, false)], none, none, (some (.prod (.int .i64) (.int .i64))), none, false, false, (some [.i, .i]), none⟩),
 (293, ⟨true, 3, 24, [.int .i64 (0 : Int), .int .i64 (0 : Int), .int .i64 (0 : Int)], [(0, 1, false), (1, 1, false), (2, 1, false)], none, none, (some (.prod (.int .i64) (.prod (.int .i64) (.int .i64)))), none, false, false, (some [.i, .i, .i]), none⟩)]
theorem Qp : TOk Tryz.prog (look tab) := Qnt (by kernel_rfl)
theorem mixed : Tryz.prog.follows .mixedOrders = true := by kernel_rfl
abbrev OK (p : Pc) (G : p.G) : Prop := p.Ok Tryz.prog G
abbrev GO (X : Ctx) : Prop := ΓOk Tryz.prog X.Γ
@[reducible] def cx (l : List (Nat × Fun)) : Ctx := ⟨look tab, Q1l l, false, false, false, false, []⟩
@[reducible] def lp2 {A0 A1 B : Type} (f : (A0 → A1 → B) → A0 → A1 → B) (z : B) : Nat → A0 → A1 → B
 | 0 => fun _ _ => z
 | i + 1 => f (lp2 f z i)
@[reducible] def lp3 {A0 A1 A2 B : Type} (f : (A0 → A1 → A2 → B) → A0 → A1 → A2 → B) (z : B) : Nat → A0 → A1 → A2 → B
 | 0 => fun _ _ _ => z
 | i + 1 => f (lp3 f z i)
@[reducible] def lp4 {A0 A1 A2 A3 B : Type} (f : (A0 → A1 → A2 → A3 → B) → A0 → A1 → A2 → A3 → B) (z : B) : Nat → A0 → A1 → A2 → A3 → B
 | 0 => fun _ _ _ _ => z
 | i + 1 => f (lp4 f z i)
@[reducible] def lp5 {A0 A1 A2 A3 A4 B : Type} (f : (A0 → A1 → A2 → A3 → A4 → B) → A0 → A1 → A2 → A3 → A4 → B) (z : B) : Nat → A0 → A1 → A2 → A3 → A4 → B
 | 0 => fun _ _ _ _ _ => z
 | i + 1 => f (lp5 f z i)
@[reducible] def lp6 {A0 A1 A2 A3 A4 A5 B : Type} (f : (A0 → A1 → A2 → A3 → A4 → A5 → B) → A0 → A1 → A2 → A3 → A4 → A5 → B) (z : B) : Nat → A0 → A1 → A2 → A3 → A4 → A5 → B
 | 0 => fun _ _ _ _ _ _ => z
 | i + 1 => f (lp6 f z i)
@[reducible] def lp7 {A0 A1 A2 A3 A4 A5 A6 B : Type} (f : (A0 → A1 → A2 → A3 → A4 → A5 → A6 → B) → A0 → A1 → A2 → A3 → A4 → A5 → A6 → B) (z : B) : Nat → A0 → A1 → A2 → A3 → A4 → A5 → A6 → B
 | 0 => fun _ _ _ _ _ _ _ => z
 | i + 1 => f (lp7 f z i)
@[reducible] def lp8 {A0 A1 A2 A3 A4 A5 A6 A7 B : Type} (f : (A0 → A1 → A2 → A3 → A4 → A5 → A6 → A7 → B) → A0 → A1 → A2 → A3 → A4 → A5 → A6 → A7 → B) (z : B) : Nat → A0 → A1 → A2 → A3 → A4 → A5 → A6 → A7 → B
 | 0 => fun _ _ _ _ _ _ _ _ => z
 | i + 1 => f (lp8 f z i)
@[reducible] def lp10 {A0 A1 A2 A3 A4 A5 A6 A7 A8 A9 B : Type} (f : (A0 → A1 → A2 → A3 → A4 → A5 → A6 → A7 → A8 → A9 → B) → A0 → A1 → A2 → A3 → A4 → A5 → A6 → A7 → A8 → A9 → B) (z : B) : Nat → A0 → A1 → A2 → A3 → A4 → A5 → A6 → A7 → A8 → A9 → B
 | 0 => fun _ _ _ _ _ _ _ _ _ _ => z
 | i + 1 => f (lp10 f z i)
@[reducible] def lp11 {A0 A1 A2 A3 A4 A5 A6 A7 A8 A9 A10 B : Type} (f : (A0 → A1 → A2 → A3 → A4 → A5 → A6 → A7 → A8 → A9 → A10 → B) → A0 → A1 → A2 → A3 → A4 → A5 → A6 → A7 → A8 → A9 → A10 → B) (z : B) : Nat → A0 → A1 → A2 → A3 → A4 → A5 → A6 → A7 → A8 → A9 → A10 → B
 | 0 => fun _ _ _ _ _ _ _ _ _ _ _ => z
 | i + 1 => f (lp11 f z i)
@[reducible] def lp12 {A0 A1 A2 A3 A4 A5 A6 A7 A8 A9 A10 A11 B : Type} (f : (A0 → A1 → A2 → A3 → A4 → A5 → A6 → A7 → A8 → A9 → A10 → A11 → B) → A0 → A1 → A2 → A3 → A4 → A5 → A6 → A7 → A8 → A9 → A10 → A11 → B) (z : B) : Nat → A0 → A1 → A2 → A3 → A4 → A5 → A6 → A7 → A8 → A9 → A10 → A11 → B
 | 0 => fun _ _ _ _ _ _ _ _ _ _ _ _ => z
 | i + 1 => f (lp12 f z i)
@[reducible] def lp13 {A0 A1 A2 A3 A4 A5 A6 A7 A8 A9 A10 A11 A12 B : Type} (f : (A0 → A1 → A2 → A3 → A4 → A5 → A6 → A7 → A8 → A9 → A10 → A11 → A12 → B) → A0 → A1 → A2 → A3 → A4 → A5 → A6 → A7 → A8 → A9 → A10 → A11 → A12 → B) (z : B) : Nat → A0 → A1 → A2 → A3 → A4 → A5 → A6 → A7 → A8 → A9 → A10 → A11 → A12 → B
 | 0 => fun _ _ _ _ _ _ _ _ _ _ _ _ _ => z
 | i + 1 => f (lp13 f z i)
@[reducible] def lp14 {A0 A1 A2 A3 A4 A5 A6 A7 A8 A9 A10 A11 A12 A13 B : Type} (f : (A0 → A1 → A2 → A3 → A4 → A5 → A6 → A7 → A8 → A9 → A10 → A11 → A12 → A13 → B) → A0 → A1 → A2 → A3 → A4 → A5 → A6 → A7 → A8 → A9 → A10 → A11 → A12 → A13 → B) (z : B) : Nat → A0 → A1 → A2 → A3 → A4 → A5 → A6 → A7 → A8 → A9 → A10 → A11 → A12 → A13 → B
 | 0 => fun _ _ _ _ _ _ _ _ _ _ _ _ _ _ => z
 | i + 1 => f (lp14 f z i)
@[reducible] def lp15 {A0 A1 A2 A3 A4 A5 A6 A7 A8 A9 A10 A11 A12 A13 A14 B : Type} (f : (A0 → A1 → A2 → A3 → A4 → A5 → A6 → A7 → A8 → A9 → A10 → A11 → A12 → A13 → A14 → B) → A0 → A1 → A2 → A3 → A4 → A5 → A6 → A7 → A8 → A9 → A10 → A11 → A12 → A13 → A14 → B) (z : B) : Nat → A0 → A1 → A2 → A3 → A4 → A5 → A6 → A7 → A8 → A9 → A10 → A11 → A12 → A13 → A14 → B
 | 0 => fun _ _ _ _ _ _ _ _ _ _ _ _ _ _ _ => z
 | i + 1 => f (lp15 f z i)
@[reducible] def lp17 {A0 A1 A2 A3 A4 A5 A6 A7 A8 A9 A10 A11 A12 A13 A14 A15 A16 B : Type} (f : (A0 → A1 → A2 → A3 → A4 → A5 → A6 → A7 → A8 → A9 → A10 → A11 → A12 → A13 → A14 → A15 → A16 → B) → A0 → A1 → A2 → A3 → A4 → A5 → A6 → A7 → A8 → A9 → A10 → A11 → A12 → A13 → A14 → A15 → A16 → B) (z : B) : Nat → A0 → A1 → A2 → A3 → A4 → A5 → A6 → A7 → A8 → A9 → A10 → A11 → A12 → A13 → A14 → A15 → A16 → B
 | 0 => fun _ _ _ _ _ _ _ _ _ _ _ _ _ _ _ _ _ => z
 | i + 1 => f (lp17 f z i)
@[reducible] def lp20 {A0 A1 A2 A3 A4 A5 A6 A7 A8 A9 A10 A11 A12 A13 A14 A15 A16 A17 A18 A19 B : Type} (f : (A0 → A1 → A2 → A3 → A4 → A5 → A6 → A7 → A8 → A9 → A10 → A11 → A12 → A13 → A14 → A15 → A16 → A17 → A18 → A19 → B) → A0 → A1 → A2 → A3 → A4 → A5 → A6 → A7 → A8 → A9 → A10 → A11 → A12 → A13 → A14 → A15 → A16 → A17 → A18 → A19 → B) (z : B) : Nat → A0 → A1 → A2 → A3 → A4 → A5 → A6 → A7 → A8 → A9 → A10 → A11 → A12 → A13 → A14 → A15 → A16 → A17 → A18 → A19 → B
 | 0 => fun _ _ _ _ _ _ _ _ _ _ _ _ _ _ _ _ _ _ _ _ => z
 | i + 1 => f (lp20 f z i)
@[reducible] def lp21 {A0 A1 A2 A3 A4 A5 A6 A7 A8 A9 A10 A11 A12 A13 A14 A15 A16 A17 A18 A19 A20 B : Type} (f : (A0 → A1 → A2 → A3 → A4 → A5 → A6 → A7 → A8 → A9 → A10 → A11 → A12 → A13 → A14 → A15 → A16 → A17 → A18 → A19 → A20 → B) → A0 → A1 → A2 → A3 → A4 → A5 → A6 → A7 → A8 → A9 → A10 → A11 → A12 → A13 → A14 → A15 → A16 → A17 → A18 → A19 → A20 → B) (z : B) : Nat → A0 → A1 → A2 → A3 → A4 → A5 → A6 → A7 → A8 → A9 → A10 → A11 → A12 → A13 → A14 → A15 → A16 → A17 → A18 → A19 → A20 → B
 | 0 => fun _ _ _ _ _ _ _ _ _ _ _ _ _ _ _ _ _ _ _ _ _ => z
 | i + 1 => f (lp21 f z i)
@[reducible] def lp38 {A0 A1 A2 A3 A4 A5 A6 A7 A8 A9 A10 A11 A12 A13 A14 A15 A16 A17 A18 A19 A20 A21 A22 A23 A24 A25 A26 A27 A28 A29 A30 A31 A32 A33 A34 A35 A36 A37 B : Type} (f : (A0 → A1 → A2 → A3 → A4 → A5 → A6 → A7 → A8 → A9 → A10 → A11 → A12 → A13 → A14 → A15 → A16 → A17 → A18 → A19 → A20 → A21 → A22 → A23 → A24 → A25 → A26 → A27 → A28 → A29 → A30 → A31 → A32 → A33 → A34 → A35 → A36 → A37 → B) → A0 → A1 → A2 → A3 → A4 → A5 → A6 → A7 → A8 → A9 → A10 → A11 → A12 → A13 → A14 → A15 → A16 → A17 → A18 → A19 → A20 → A21 → A22 → A23 → A24 → A25 → A26 → A27 → A28 → A29 → A30 → A31 → A32 → A33 → A34 → A35 → A36 → A37 → B) (z : B) : Nat → A0 → A1 → A2 → A3 → A4 → A5 → A6 → A7 → A8 → A9 → A10 → A11 → A12 → A13 → A14 → A15 → A16 → A17 → A18 → A19 → A20 → A21 → A22 → A23 → A24 → A25 → A26 → A27 → A28 → A29 → A30 → A31 → A32 → A33 → A34 → A35 → A36 → A37 → B
 | 0 => fun _ _ _ _ _ _ _ _ _ _ _ _ _ _ _ _ _ _ _ _ _ _ _ _ _ _ _ _ _ _ _ _ _ _ _ _ _ _ => z
 | i + 1 => f (lp38 f z i)
abbrev En := Ent Tryz.prog
abbrev Pb := PB Tryz.prog
@[reducible] noncomputable def ctx (es : List En) : Ctx := ⟨look tab, gam es, false, false, false, false, []⟩
theorem pf (es : List En) (cs : List Pb) {ps rs : List (Bool × List CT)} {is os : List BT} {f : FuncId} {fn : Func} (vs : List RS) {s : (β : Type) → VF (KF (Option β) rs os → Option β) ps is} (hf : Tryz.prog.funcs[f]? = some fn)
  (hc : ((fn.name == "runtime.NumGoroutine"), fn.body, fn.results.toList, (Nat.beq vs.length rs.length && (ST.tidy rs && Nat.ble ps.length fn.ntmps)), cs.map (fun b => (find b.q 1 (Q2 fn), b.p.v.m, b.p.n, b.p.m))) = (false, some (Q2 fn), vs.map RS.toVar, true, cs.map (fun b => ([b.p.c], is.length, fn.ntmps, is.length))))
  (h : ∀ {β : Type} (x : ST.dens ps × BT.dens is) (k : ST.dens rs × BT.dens os → Option β), exec (ctx es) fn.ntmps (cuts cs) 1 (Q2 fn) ((vIn (sgE ps is rs os s)).mk' x) (retK (ctx es).T (sgE ps is rs os s) vs k) = vapp ps is (s β) x (klam rs os k)) :
  SpecOk Tryz.prog f (sgE ps is rs os fun β => hid (s β)) := Q7j mixed (X := ctx es) Qp es rfl cs vs hf hc h
theorem pl {p : Pc} (es : List En) (cs : List Pb) {g : Nat → (β : Type) → p.T β} (hc : ((p.o.all fun x => Nat.beq x.2.m p.m), cs.map (fun b => (find b.q 1 (Qb p.c), b.p.v.m, b.p.n, b.p.m))) = (true, cs.map (fun b => ([b.p.c], p.m, p.n, p.m)))) (hv : p.v.m = p.m) (hl : p.c = .loop (Qb p.c))
  (h0 : ∀ {β : Type} (d : p.v.den) (ks : Outs.K β p.o), p.un (g 0) d ks = none)
  (h : ∀ (i : Nat) {β : Type} (d : p.v.den) (ks : Outs.K β p.o), exec (ctx es) p.n (cuts cs) 1 (Qb p.c) (p.v.mk' d) (Qbi p.v (fun d' => p.un (g i) d' ks) p.o ks) = p.un (g (i + 1)) d ks) : p.Ok Tryz.prog (p.un fun β => hid (g fuel β)) := Q1n mixed (X := ctx es) Qp es rfl cs hc hv hl h0 h
theorem pe {p : Pc} (es : List En) (cs : List Pb) (q : Nat) {g : (β : Type) → p.T β} (hc : ((p.o.all fun x => Nat.beq x.2.m p.m), cs.map (fun b => (find b.q q p.c, b.p.v.m, b.p.n, b.p.m))) = (true, cs.map (fun b => ([b.p.c], p.m, p.n, p.m))))
  (h : ∀ {β : Type} (d : p.v.den) (ks : Outs.K β p.o), exec (ctx es) p.n (cuts cs) q p.c (p.v.mk' d) (outK p.o ks) = p.un g d ks) : p.Ok Tryz.prog (p.un fun β => hid (g β)) := Qic mixed (X := ctx es) Qp es rfl cs q hc h
abbrev zq1i := {β : Type} → t3y → (Bool → Option β) → Option β
def zq1j : zq1i := fun l k =>
 let t : Bool := (decide ((List.length l : Int) ≤ (500 : Int)));
 k t
def zq1k : zq1i := hid zq1j
noncomputable def zq1l : En := ⟨4, .spec (sg [b42y] [] [b30y] [] zq1k), pf [] [] [.tmp 2] Tryz.func4 (by kernel_rfl) fun _ _ => by kernel_rfl⟩
abbrev zq1m := {β : Type} → t3y → (t1y → Option β) → Option β
def zq1n : zq1m := fun l k =>
 k (l, (0 : Int))
def zq1o : zq1m := hid zq1n
noncomputable def zq1p : En := ⟨6, .spec (sg [b42y] [] [b29y] [b28y] zq1o), pf [] [] [.tmp 2] Tryz.func6 (by kernel_rfl) fun _ _ => by kernel_rfl⟩
abbrev zq1q := {β : Type} → Int → t1y → (Int → t1y → Option β) → Option β
def zq1r : zq1q := fun n d k =>
 cond (decide ((List.length d.1 : Int) ≤ d.2))
 (k (0 : Int) d)
 (cond (decide (n < (1 : Int)))
 (k (0 : Int) d)
 (cond (decide (0 ≤ d.2) && decide (d.2 < (List.length d.1 : Int)))
 (let e : Int := List.getD d.1 (Int.toNat d.2) (0 : Int);
 cond (!decide (n = 0))
 (cond (decide ((Int.tmod e n) < (0 : Int)))
 (let x : Int := (IntKind.i64.wrap ((Int.tmod e n) + n));
 k x (d.1, (IntKind.i64.wrap (d.2 + (1 : Int)))))
 (k (Int.tmod e n) (d.1, (IntKind.i64.wrap (d.2 + (1 : Int))))))
 none)
 none))
def zq1s : zq1q := hid zq1r
noncomputable def zq1t : En := ⟨10, .spec (sg [b29y, b27y] [b28y] [b27y] [b28y] zq1s), pf [] [] [.tmp 4] Tryz.func10 (by kernel_rfl) fun _ _ => by kernel_rfl⟩
abbrev zq1u := {β : Type} → t1y → (t1y → t10y → t3y → Option β) → Option β
noncomputable def zq1v : List En := [zq1t]
abbrev zq1w (β : Type) := t1y → t10y → t3y → Option β
abbrev zq1x (β : Type) := Int → t1y → t10y → t3y → Option β
noncomputable def zq1y : Pc := ⟨36, 1, Q1 122 (Q2 Tryz.f18), ⟨1, [0, 4, 5, 6], [b29y, b45y, b52y, b27y], [b28y, .row 57 (.prod (.int .i64) (.int .i64)), .row 3 (.int .i64)]⟩, [(.exit 0, ⟨1, [4, 5], [b45y, b52y], [b28y, .row 57 (.prod (.int .i64) (.int .i64)), .row 3 (.int .i64)]⟩)]⟩
def zq1z {β : Type} (rec : zq1x β) (k1 : zq1w β) : zq1x β := fun i_ d l x =>
 cond (decide ((0 : Int) < i_))
 (zq1s (200 : Int) d (fun (rNext : Int) (mrNext : t1y) =>
 zq1s (20 : Int) mrNext (fun (rNext2 : Int) (mrNext2 : t1y) =>
 zq1s (20 : Int) mrNext2 (fun (rNext3 : Int) (mrNext3 : t1y) =>
 let l2 : List t0y := ([((if (0 : Int) > (IntKind.i64.wrap (rNext - rNext2)) then (0 : Int) else (IntKind.i64.wrap (rNext - rNext2))), (IntKind.i64.wrap (rNext + rNext3)))] : List t0y);
 cond (decide ((List.length l + List.length l2) * 16 ≤ Q5))
 (let l3 : List t0y := (l ++ l2);
 let l4 : List Int := ([rNext] : List Int);
 cond (decide ((List.length x + List.length l4) * 8 ≤ Q5))
 (let l5 : List Int := (x ++ l4);
 let i_2 : Int := (IntKind.i64.wrap (i_ - (1 : Int)));
 rec i_2 mrNext3 l3 l5)
 none)
 none))))
 (k1 d l x)
def zq20 (m : Nat) {β : Type} (k1 : zq1w β) : zq1x β := lp4 (fun r => zq1z r k1) none m
theorem zq21 {β : Type} (i : Nat) (k1) : zq20 (β := β) (i + 1) k1 = zq1z (zq20 i k1) k1 := rfl
def zq22 {β : Type} := hid (zq20 (β := β) fuel)
noncomputable def zq23 : Pb := ⟨122, zq1y, fun _ => zq22, pl (p := zq1y) zq1v [] (g := fun i _ => zq20 i) (by kernel_rfl) rfl (by kernel_rfl) (fun _ _ => rfl) fun _ _ _ _ => by kernel_rfl⟩
def zq24 : zq1u := fun d k =>
 zq1s (7 : Int) d (fun (rNext : Int) (mrNext : t1y) =>
 let i_ : Int := (IntKind.i64.wrap ((1 : Int) + rNext));
 zq22 (fun (b0_ : t1y) (l : List t0y) (x : List Int) =>
 k b0_ l x) i_ mrNext ([] : List t0y) ([] : List Int))
def zq25 : zq1u := hid zq24
noncomputable def zq26 : En := ⟨18, .spec (sg [b29y] [b28y] [b45y, b52y] [b28y, .row 57 (.prod (.int .i64) (.int .i64)), .row 3 (.int .i64)] zq25), pf zq1v [zq23] [.tmp 2, .tmp 3] Tryz.func18 (by kernel_rfl) fun _ _ => by kernel_rfl⟩
theorem zq27 : SpecOk Tryz.prog 18 (sg [b29y] [b28y] [b45y, b52y] [b28y, .row 57 (.prod (.int .i64) (.int .i64)), .row 3 (.int .i64)] zq25) := zq26.ok
abbrev zq28 := {β : Type} → t3y → t1y → (Int → t1y → Option β) → Option β
def zq29 : zq28 := fun l d k =>
 zq1s (List.length l : Int) d (fun (rNext : Int) (mrNext : t1y) =>
 cond (decide (0 ≤ rNext) && decide (rNext < (List.length l : Int)))
 (let e : Int := List.getD l (Int.toNat rNext) (0 : Int);
 k e mrNext)
 none)
def zq2a : zq28 := hid zq29
noncomputable def zq2b : En := ⟨19, .spec (sg [b29y, b42y] [b28y] [b27y] [b28y] zq2a), pf [zq1t] [] [.tmp 4] Tryz.func19 (by kernel_rfl) fun _ _ => by kernel_rfl⟩
abbrev zq2c := {β : Type} → t12y → Int → (Int → Int → Option β) → Option β
abbrev zq2d (β : Type) := Int → Int → Option β
abbrev zq2e (β : Type) := Int → Int → Int → t12y → Int → Int → Option β
noncomputable def zq2f : Pc := ⟨35, 0, Q1 26 (Q2 Tryz.f26), ⟨0, [1, 4, 5, 8, 9, 10], [b27y, b27y, b27y, b44y, b27y, b27y], []⟩, [(.exit 0, ⟨0, [4, 5], [b27y, b27y], []⟩)]⟩
abbrev zq2g (β : Type) := Int → Int → Int → t12y → Int → Int → Option β
abbrev zq2h (β : Type) := Int → Int → Int → t12y → Int → Int → zqu → Option β
noncomputable def zq2i : Pc := ⟨35, 0, Q1 231 (Qb zq2f.c), ⟨0, [1, 4, 5, 7, 8, 9, 10], [b27y, b27y, b27y, b29y, b44y, b27y, b27y], [b36y]⟩, [(.normal, ⟨0, [1, 4, 5, 8, 9, 10], [b27y, b27y, b27y, b44y, b27y, b27y], []⟩)]⟩
def zq2j {β : Type} (k1 : zq2g β) : zq2h β := fun limit certain possible t8 t9 t10 x =>
 cond (decide (x.2.1.1 ≤ limit))
 (let possible2 : Int := (IntKind.i64.wrap (possible + (1 : Int)));
 k1 limit certain possible2 t8 t9 t10)
 (k1 limit certain possible t8 t9 t10)
def zq2k {β : Type} := hid (zq2j (β := β))
noncomputable def zq2l : Pb := ⟨231, zq2i, fun _ => zq2k, pe (p := zq2i) [] [] 231 (g := fun _ => zq2j) (by kernel_rfl) fun _ _ => by kernel_rfl⟩
def zq2m {β : Type} (rec : zq2e β) (k1 : zq2d β) : zq2e β := fun limit certain possible t8 t9 t10 =>
 cond (decide (t10 < t9))
 (cond (decide (0 ≤ t10) && decide (t10 < (List.length t8 : Int)))
 (let e : zqu := List.getD t8 (Int.toNat t10) ((0 : Int), (((0 : Int), (0 : Int)), (((0 : Int), (0 : Int)), (((0 : Int), (0 : Int)), ((0 : Int), ((0 : Int), (0 : Int)))))));
 cond (decide (e.2.1.2 < (0 : Int)))
 (rec limit certain possible t8 t9 (IntKind.i64.wrap (t10 + (1 : Int))))
 (cond (decide (e.2.1.2 ≤ limit))
 (let certain2 : Int := (IntKind.i64.wrap (certain + (1 : Int)));
 zq2k (fun (limit2 : Int) (certain3 : Int) (possible2 : Int) (t82 : List zqu) (t92 : Int) (t102 : Int) =>
 rec limit2 certain3 possible2 t82 t92 (IntKind.i64.wrap (t102 + (1 : Int)))) limit certain2 possible t8 t9 t10 e)
 (zq2k (fun (limit2 : Int) (certain2 : Int) (possible2 : Int) (t82 : List zqu) (t92 : Int) (t102 : Int) =>
 rec limit2 certain2 possible2 t82 t92 (IntKind.i64.wrap (t102 + (1 : Int)))) limit certain possible t8 t9 t10 e)))
 none)
 (k1 certain possible)
def zq2n (m : Nat) {β : Type} (k1 : zq2d β) : zq2e β := lp6 (fun r => zq2m r k1) none m
theorem zq2o {β : Type} (i : Nat) (k1) : zq2n (β := β) (i + 1) k1 = zq2m (zq2n i k1) k1 := rfl
def zq2p {β : Type} := hid (zq2n (β := β) fuel)
noncomputable def zq2q : Pb := ⟨26, zq2f, fun _ => zq2p, pl (p := zq2f) [] [zq2l] (g := fun i _ => zq2n i) (by kernel_rfl) rfl (by kernel_rfl) (fun _ _ => rfl) fun _ _ _ _ => by kernel_rfl⟩
def zq2r : zq2c := fun l limit k =>
 zq2p (fun (certain : Int) (possible : Int) =>
 k certain possible) limit (0 : Int) (0 : Int) l (List.length l : Int) (0 : Int)
def zq2s : zq2c := hid zq2r
noncomputable def zq2t : En := ⟨26, .spec (sg [b44y, b27y] [] [b27y, b27y] [] zq2s), pf [] [zq2q] [.tmp 4, .tmp 5] Tryz.func26 (by kernel_rfl) fun _ _ => by kernel_rfl⟩
abbrev zq2u := {β : Type} → t12y → Int → (Int → Int → Option β) → Option β
abbrev zq2v (β : Type) := Int → Int → Option β
abbrev zq2w (β : Type) := t12y → Int → Int → Int → Int → Option β
noncomputable def zq2x : Pc := ⟨42, 0, Q1 26 (Q2 Tryz.f27), ⟨0, [0, 1, 4, 5, 6], [b44y, b27y, b27y, b27y, b27y], []⟩, [(.exit 0, ⟨0, [4, 5], [b27y, b27y], []⟩)]⟩
abbrev zq2y (β : Type) := t12y → Int → Int → Int → Int → Option β
abbrev zq2z (β : Type) := t12y → Int → Int → Int → Int → Option β
noncomputable def zq30 : Pc := ⟨42, 0, Q1 51 (Qb zq2x.c), ⟨0, [0, 1, 4, 5, 6], [b44y, b27y, b27y, b27y, b27y], []⟩, [(.normal, ⟨0, [0, 1, 4, 5, 6], [b44y, b27y, b27y, b27y, b27y], []⟩)]⟩
def zq31 {β : Type} (k1 : zq2y β) : zq2z β := fun l limit certain possible i_ =>
 cond (decide (0 ≤ i_) && decide (i_ < (List.length l : Int)))
 (let e : zqu := List.getD l (Int.toNat i_) ((0 : Int), (((0 : Int), (0 : Int)), (((0 : Int), (0 : Int)), (((0 : Int), (0 : Int)), ((0 : Int), ((0 : Int), (0 : Int)))))));
 cond (decide (e.2.1.1 ≤ limit))
 (let possible2 : Int := (IntKind.i64.wrap (possible + (1 : Int)));
 k1 l limit certain possible2 i_)
 (k1 l limit certain possible i_))
 none
def zq32 {β : Type} := hid (zq31 (β := β))
noncomputable def zq33 : Pb := ⟨51, zq30, fun _ => zq32, pe (p := zq30) [] [] 51 (g := fun _ => zq31) (by kernel_rfl) fun _ _ => by kernel_rfl⟩
def zq34 {β : Type} (rec : zq2w β) (k1 : zq2v β) : zq2w β := fun l limit certain possible i_ =>
 cond (decide (i_ < (List.length l : Int)))
 (cond (decide (0 ≤ i_) && decide (i_ < (List.length l : Int)))
 (let e : zqu := List.getD l (Int.toNat i_) ((0 : Int), (((0 : Int), (0 : Int)), (((0 : Int), (0 : Int)), (((0 : Int), (0 : Int)), ((0 : Int), ((0 : Int), (0 : Int)))))));
 cond (decide (e.2.1.2 < (0 : Int)))
 (let i_2 : Int := (IntKind.i64.wrap (i_ + (1 : Int)));
 rec l limit certain possible i_2)
 (cond (decide (0 ≤ i_) && decide (i_ < (List.length l : Int)))
 (let e2 : zqu := List.getD l (Int.toNat i_) ((0 : Int), (((0 : Int), (0 : Int)), (((0 : Int), (0 : Int)), (((0 : Int), (0 : Int)), ((0 : Int), ((0 : Int), (0 : Int)))))));
 cond (decide (e2.2.1.2 ≤ limit))
 (let certain2 : Int := (IntKind.i64.wrap (certain + (1 : Int)));
 zq32 (fun (l2 : List zqu) (limit2 : Int) (certain3 : Int) (possible2 : Int) (i_2 : Int) =>
 let i_3 : Int := (IntKind.i64.wrap (i_2 + (1 : Int)));
 rec l2 limit2 certain3 possible2 i_3) l limit certain2 possible i_)
 (zq32 (fun (l2 : List zqu) (limit2 : Int) (certain2 : Int) (possible2 : Int) (i_2 : Int) =>
 let i_3 : Int := (IntKind.i64.wrap (i_2 + (1 : Int)));
 rec l2 limit2 certain2 possible2 i_3) l limit certain possible i_))
 none))
 none)
 (k1 certain possible)
def zq35 (m : Nat) {β : Type} (k1 : zq2v β) : zq2w β := lp5 (fun r => zq34 r k1) none m
theorem zq36 {β : Type} (i : Nat) (k1) : zq35 (β := β) (i + 1) k1 = zq34 (zq35 i k1) k1 := rfl
def zq37 {β : Type} := hid (zq35 (β := β) fuel)
noncomputable def zq38 : Pb := ⟨26, zq2x, fun _ => zq37, pl (p := zq2x) [] [zq33] (g := fun i _ => zq35 i) (by kernel_rfl) rfl (by kernel_rfl) (fun _ _ => rfl) fun _ _ _ _ => by kernel_rfl⟩
def zq39 : zq2u := fun l limit k =>
 zq37 (fun (certain : Int) (possible : Int) =>
 k certain possible) l limit (0 : Int) (0 : Int) (0 : Int)
def zq3a : zq2u := hid zq39
noncomputable def zq3b : En := ⟨27, .spec (sg [b44y, b27y] [] [b27y, b27y] [] zq3a), pf [] [zq38] [.tmp 4, .tmp 5] Tryz.func27 (by kernel_rfl) fun _ _ => by kernel_rfl⟩
abbrev zq3c := {β : Type} → t1y → (t8y → t1y → Option β) → Option β
def zq3d : zq3c := fun d k =>
 let l : List Int := ([(0 : Int), (300 : Int), (1200 : Int), (3600 : Int)] : List Int);
 zq2a l d (fun (rOne : Int) (mrOne : t1y) =>
 let from_ : Int := (IntKind.i64.wrap ((864000 : Int) + rOne));
 zq1s (3 : Int) mrOne (fun (rNext : Int) (mrNext : t1y) =>
 zq1s (4 : Int) mrNext (fun (rNext2 : Int) (mrNext2 : t1y) =>
 let l2 : List Int := ([(300 : Int), (1800 : Int), (7200 : Int)] : List Int);
 zq2a l2 mrNext2 (fun (rOne2 : Int) (mrOne2 : t1y) =>
 let t : Bool := (decide (rNext = (2 : Int)));
 cond t
 (zq1s (3 : Int) mrOne2 (fun (rNext3 : Int) (mrNext3 : t1y) =>
 cond (!decide ((4 : Int) = 0))
 (k (rNext, (rNext2, ((Int.tmod (IntKind.i64.wrap ((IntKind.i64.wrap (rNext2 + (1 : Int))) + rNext3)) (4 : Int)), (from_, (IntKind.i64.wrap (from_ + rOne2)))))) mrNext3)
 none))
 (let t2 : Bool := (decide (rNext = (1 : Int)));
 cond t2
 (zq1s (5 : Int) mrOne2 (fun (rNext3 : Int) (mrNext3 : t1y) =>
 k (rNext, ((IntKind.i64.wrap (rNext3 - (1 : Int))), ((0 : Int), (from_, (IntKind.i64.wrap (from_ + rOne2)))))) mrNext3))
 (k (rNext, (rNext2, ((0 : Int), (from_, (IntKind.i64.wrap (from_ + rOne2)))))) mrOne2))))))
def zq3e : zq3c := hid zq3d
noncomputable def zq3f : En := ⟨28, .spec (sg [b29y] [b28y] [(true, [.data (.prod (.int .i64) zqd)])] [b28y] zq3e), pf [zq1t, zq2b] [] [.cell 2 110] Tryz.func28 (by kernel_rfl) fun _ _ => by kernel_rfl⟩
abbrev zq3g := {β : Type} → t24y → t1y → (t0y → t1y → Option β) → Option β
noncomputable def zq3h : List En := [zq1t]
abbrev zq3i (β : Type) := t1y → t0y → Option β
abbrev zq3j (β : Type) := Int → t1y → t24y → t0y → Option β
noncomputable def zq3k : Pc := ⟨29, 1, Q1 15 (Q2 Tryz.f29), ⟨1, [0, 3, 4, 5], [b29y, b34y, b37y, b27y], [b28y, .cells 39 [.data (.slice (.prod .str (.slice (.int .i64)))), .junk], b66y]⟩, [(.ret, ⟨1, [4], [b34y], [b28y, b66y]⟩)]⟩
def zq3l {β : Type} (k1 : zq3i β) : zq3j β := fun k_ d b t4 =>
 let l : List Int := ([(4 : Int), (2 : Int), (List.length b : Int)] : List Int);
 cond (decide (0 ≤ k_) && decide (k_ < (List.length l : Int)))
 (let n : Int := (List.getD l (Int.toNat k_) (0 : Int));
 zq1s n d (fun (rNext : Int) (mrNext : t1y) =>
 k1 mrNext (k_, rNext)))
 none
def zq3m {β : Type} := hid (zq3l (β := β))
noncomputable def zq3n : Pb := ⟨15, zq3k, fun _ => zq3m, pe (p := zq3k) zq3h [] 15 (g := fun _ => zq3l) (by kernel_rfl) fun _ _ => by kernel_rfl⟩
def zq3o : zq3g := fun b d k =>
 zq1s (3 : Int) d (fun (rNext : Int) (mrNext : t1y) =>
 cond (decide (rNext = (2 : Int)))
 (cond (decide ((List.length b : Int) = (0 : Int)))
 (zq3m (fun (b0_ : t1y) (t4 : t0y) =>
 k t4 b0_) (0 : Int) mrNext b ((0 : Int), (0 : Int)))
 (zq3m (fun (b0_ : t1y) (t4 : t0y) =>
 k t4 b0_) rNext mrNext b ((0 : Int), (0 : Int))))
 (zq3m (fun (b0_ : t1y) (t4 : t0y) =>
 k t4 b0_) rNext mrNext b ((0 : Int), (0 : Int))))
def zq3p : zq3g := hid zq3o
noncomputable def zq3q : En := ⟨29, .spec (sg [b29y, (true, [.data (.slice (.prod .str (.slice (.int .i64)))), .junk])] [b28y] [b35y] [b28y] zq3p), pf zq3h [zq3n] [.cell 4 121] Tryz.func29 (by kernel_rfl) fun _ _ => by kernel_rfl⟩
abbrev zq3r := {β : Type} → Int → Int → Int → t1y → (t22y → t1y → Option β) → Option β
def zq3s : zq3r := fun id page at_ d k =>
 zq1s (5 : Int) d (fun (rNext : Int) (mrNext : t1y) =>
 zq1s (5 : Int) mrNext (fun (rNext2 : Int) (mrNext2 : t1y) =>
 let t : Bool := (decide ((IntKind.i64.wrap ((1 : Int) + rNext2)) = (3 : Int)));
 cond t
 (let l : List Int := ([(1 : Int), (60 : Int), (600 : Int), (5000 : Int)] : List Int);
 zq2a l mrNext2 (fun (rOne : Int) (mrOne : t1y) =>
 k (id, (page, ((IntKind.i64.wrap (rNext - (1 : Int))), ((IntKind.i64.wrap ((1 : Int) + rNext2)), (rOne, at_))))) mrOne))
 (let t2 : Bool := (decide ((IntKind.i64.wrap ((1 : Int) + rNext2)) = (4 : Int)));
 cond t2
 (zq1s (4 : Int) mrNext2 (fun (rNext3 : Int) (mrNext3 : t1y) =>
 k (id, (page, ((IntKind.i64.wrap (rNext - (1 : Int))), ((IntKind.i64.wrap ((1 : Int) + rNext2)), (rNext3, at_))))) mrNext3))
 (k (id, (page, ((IntKind.i64.wrap (rNext - (1 : Int))), ((IntKind.i64.wrap ((1 : Int) + rNext2)), ((0 : Int), at_))))) mrNext2))))
def zq3t : zq3r := hid zq3s
noncomputable def zq3u : En := ⟨41, .spec (sg [b29y, b27y, b27y, b27y] [b28y] [b72y] [b28y] zq3t), pf [zq1t, zq2b] [] [.cell 8 136] Tryz.func41 (by kernel_rfl) fun _ _ => by kernel_rfl⟩
abbrev zq3v := {β : Type} → (t0y → Option β) → Option β
def zq3w : zq3v := fun k =>
 k ((0 : Int), (-1 : Int))
def zq3x : zq3v := hid zq3w
noncomputable def zq3y : En := ⟨43, .spec (sg [] [] [b35y] [] zq3x), pf [] [] [.cell 0 57] Tryz.func43 (by kernel_rfl) fun _ _ => by kernel_rfl⟩
abbrev zq3z := {β : Type} → Int → (t0y → Option β) → Option β
def zq40 : zq3z := fun n k =>
 k (n, n)
def zq41 : zq3z := hid zq40
noncomputable def zq42 : En := ⟨45, .spec (sg [b27y] [] [b35y] [] zq41), pf [] [] [.cell 2 57] Tryz.func45 (by kernel_rfl) fun _ _ => by kernel_rfl⟩
abbrev zq43 := {β : Type} → (t0y → Option β) → Option β
def zq44 : zq43 := fun k =>
 k ((0 : Int), (-1 : Int))
def zq45 : zq43 := hid zq44
noncomputable def zq46 : En := ⟨47, .spec (sg [] [] [b35y] [] zq45), pf [] [] [.cell 0 57] Tryz.func47 (by kernel_rfl) fun _ _ => by kernel_rfl⟩
abbrev zq47 := {β : Type} → t3y → Int → (Bool → Option β) → Option β
abbrev zq48 (β : Type) := Bool → Option β
abbrev zq49 (β : Type) := Unit → Option β
abbrev zq4a (β : Type) := t3y → Int → Int → Option β
noncomputable def zq4b : Pc := ⟨18, 0, Q1 26 (Q2 Tryz.f48), ⟨0, [0, 1, 5], [b42y, b27y, b27y], []⟩, [(.ret, ⟨0, [4], [b30y], []⟩), (.exit 0, ⟨0, [], [], []⟩)]⟩
def zq4c {β : Type} (rec : zq4a β) (k1 : zq48 β) (k2 : zq49 β) : zq4a β := fun l x i_ =>
 cond (decide (i_ < (List.length l : Int)))
 (cond (decide (0 ≤ i_) && decide (i_ < (List.length l : Int)))
 (let e : Int := List.getD l (Int.toNat i_) (0 : Int);
 cond (decide (e = x))
 (k1 true)
 (let i_2 : Int := (IntKind.i64.wrap (i_ + (1 : Int)));
 rec l x i_2))
 none)
 (k2 ())
def zq4d (m : Nat) {β : Type} (k1 : zq48 β) (k2 : zq49 β) : zq4a β := lp3 (fun r => zq4c r k1 k2) none m
theorem zq4e {β : Type} (i : Nat) (k1 k2) : zq4d (β := β) (i + 1) k1 k2 = zq4c (zq4d i k1 k2) k1 k2 := rfl
def zq4f {β : Type} := hid (zq4d (β := β) fuel)
noncomputable def zq4g : Pb := ⟨26, zq4b, fun _ => zq4f, pl (p := zq4b) [] [] (g := fun i _ => zq4d i) (by kernel_rfl) rfl (by kernel_rfl) (fun _ _ => rfl) fun _ _ _ _ => by kernel_rfl⟩
def zq4h : zq47 := fun l x k =>
 zq4f (fun (t4 : Bool) =>
 k t4) (fun (_ : Unit) =>
 k false) l x (0 : Int)
def zq4i : zq47 := hid zq4h
noncomputable def zq4j : En := ⟨48, .spec (sg [b42y, b27y] [] [b30y] [] zq4i), pf [] [zq4g] [.tmp 4] Tryz.func48 (by kernel_rfl) fun _ _ => by kernel_rfl⟩
abbrev zq4k := {β : Type} → Int → (t0y → Option β) → Option β
def zq4l : zq4k := fun n k =>
 k (n, n)
def zq4m : zq4k := hid zq4l
noncomputable def zq4n : En := ⟨49, .spec (sg [b27y] [] [b35y] [] zq4m), pf [] [] [.cell 2 57] Tryz.func49 (by kernel_rfl) fun _ _ => by kernel_rfl⟩
abbrev zq4o := {β : Type} → t10y → (t0y → Option β) → Option β
abbrev zq4p (β : Type) := t0y → t0y → Option β
abbrev zq4q (β : Type) := t10y → Int → Int → t0y → t0y → Option β
noncomputable def zq4r : Pc := ⟨26, 0, Q1 58 (Q2 Tryz.f55), ⟨0, [2, 3, 6, 7, 8], [b29y, b34y, b31y, b27y, b27y], [b41y, b41y]⟩, [(.exit 0, ⟨0, [2, 3], [b29y, b34y], [b41y, b41y]⟩)]⟩
def zq4s {β : Type} (rec : zq4q β) (k1 : zq4p β) : zq4q β := fun t6 t7 t8 t2 out =>
 cond (decide (t8 < t7))
 (cond (decide (0 ≤ t8) && decide (t8 < (List.length t6 : Int)))
 (let e : t0y := List.getD t6 (Int.toNat t8) ((0 : Int), (0 : Int));
 rec t6 t7 (IntKind.i64.wrap (t8 + (1 : Int))) t2 ((IntKind.i64.wrap (out.1 + e.1)), (IntKind.i64.wrap (out.2 + e.2))))
 none)
 (k1 t2 out)
def zq4t (m : Nat) {β : Type} (k1 : zq4p β) : zq4q β := lp5 (fun r => zq4s r k1) none m
theorem zq4u {β : Type} (i : Nat) (k1) : zq4t (β := β) (i + 1) k1 = zq4s (zq4t i k1) k1 := rfl
def zq4v {β : Type} := hid (zq4t (β := β) fuel)
noncomputable def zq4w : Pb := ⟨58, zq4r, fun _ => zq4v, pl (p := zq4r) [] [] (g := fun i _ => zq4t i) (by kernel_rfl) rfl (by kernel_rfl) (fun _ _ => rfl) fun _ _ _ _ => by kernel_rfl⟩
def zq4x : zq4o := fun l k =>
 zq4v (fun (t2 : t0y) (out : t0y) =>
 k out) l (List.length l : Int) (0 : Int) ((0 : Int), (0 : Int)) ((0 : Int), (0 : Int))
def zq4y : zq4o := hid zq4x
noncomputable def zq4z : En := ⟨55, .spec (sg [b31y] [] [b35y] [] zq4y), pf [] [zq4w] [.cell 2 57] Tryz.func55 (by kernel_rfl) fun _ _ => by kernel_rfl⟩
abbrev zq50 := {β : Type} → Int → Int → Int → (Bool → Option β) → Option β
def zq51 : zq50 := fun n low high k =>
 cond (decide (low ≤ n))
 (k (decide (n ≤ high)))
 (k false)
def zq52 : zq50 := hid zq51
noncomputable def zq53 : En := ⟨59, .spec (sg [b27y, b27y, b27y] [] [b30y] [] zq52), pf [] [] [.tmp 6] Tryz.func59 (by kernel_rfl) fun _ _ => by kernel_rfl⟩
abbrev zq54 := {β : Type} → Int → Int → Int → (Bool → Option β) → Option β
def zq55 : zq54 := fun n lo hi k =>
 cond (decide (lo ≤ n))
 (k (decide (n ≤ hi)))
 (k false)
def zq56 : zq54 := hid zq55
noncomputable def zq57 : En := ⟨61, .spec (sg [b27y, b27y, b27y] [] [b30y] [] zq56), pf [] [] [.tmp 6] Tryz.func61 (by kernel_rfl) fun _ _ => by kernel_rfl⟩
abbrev zq58 := {β : Type} → t3y → Int → (t3y → Option β) → Option β
abbrev zq59 (β : Type) := t3y → Int → Int → Option β
abbrev zq5a (β : Type) := t3y → Int → Int → Option β
noncomputable def zq5b : Pc := ⟨34, 0, Q1 28 (Q2 Tryz.f62), ⟨0, [0, 1, 5], [b42y, b27y, b27y], []⟩, [(.exit 0, ⟨0, [0, 1, 5], [b42y, b27y, b27y], []⟩)]⟩
def zq5c {β : Type} (rec : zq5a β) (k1 : zq59 β) : zq5a β := fun l x k_ =>
 cond (decide ((0 : Int) < k_))
 (cond (decide (0 ≤ (IntKind.i64.wrap (k_ - (1 : Int)))) && decide ((IntKind.i64.wrap (k_ - (1 : Int))) < (List.length l : Int)))
 (let e : Int := List.getD l (Int.toNat (IntKind.i64.wrap (k_ - (1 : Int)))) (0 : Int);
 cond (decide (x < e))
 (let k_2 : Int := (IntKind.i64.wrap (k_ - (1 : Int)));
 rec l x k_2)
 (k1 l x k_))
 none)
 (k1 l x k_)
def zq5d (m : Nat) {β : Type} (k1 : zq59 β) : zq5a β := lp3 (fun r => zq5c r k1) none m
theorem zq5e {β : Type} (i : Nat) (k1) : zq5d (β := β) (i + 1) k1 = zq5c (zq5d i k1) k1 := rfl
def zq5f {β : Type} := hid (zq5d (β := β) fuel)
noncomputable def zq5g : Pb := ⟨28, zq5b, fun _ => zq5f, pl (p := zq5b) [] [] (g := fun i _ => zq5d i) (by kernel_rfl) rfl (by kernel_rfl) (fun _ _ => rfl) fun _ _ _ _ => by kernel_rfl⟩
def zq5h : zq58 := fun l x k =>
 zq5f (fun (l2 : List Int) (x2 : Int) (k_ : Int) =>
 cond (decide (0 ≤ (0 : Int)) && (decide ((0 : Int) ≤ k_) && decide (k_ ≤ (List.length l2 : Int))))
 (cond (decide (List.length (List.drop (Int.toNat (0 : Int)) (List.take (Int.toNat k_) l2)) * 8 ≤ Q5))
 (let l3 : List Int := (List.drop (Int.toNat (0 : Int)) (List.take (Int.toNat k_) l2));
 let l4 : List Int := ([x2] : List Int);
 cond (decide ((List.length l3 + List.length l4) * 8 ≤ Q5))
 (let l5 : List Int := (l3 ++ l4);
 cond (decide (0 ≤ k_) && (decide (k_ ≤ (List.length l2 : Int)) && decide ((List.length l2 : Int) ≤ (List.length l2 : Int))))
 (cond (decide ((List.length l5 + List.length (List.drop (Int.toNat k_) (List.take (Int.toNat (List.length l2 : Int)) l2))) * 8 ≤ Q5))
 (let l6 : List Int := (l5 ++ (List.drop (Int.toNat k_) (List.take (Int.toNat (List.length l2 : Int)) l2)));
 k l6)
 none)
 none)
 none)
 none)
 none) l x (List.length l : Int)
def zq5i : zq58 := hid zq5h
noncomputable def zq5j : En := ⟨62, .spec (sg [b42y, b27y] [] [b50y] [.row 3 (.int .i64)] zq5i), pf [] [zq5g] [.tmp 4] Tryz.func62 (by kernel_rfl) fun _ _ => by kernel_rfl⟩
abbrev zq5k := {β : Type} → Int → Bool → (Bool → Option β) → Option β
def zq5l : zq5k := fun n nobody k =>
 zq56 n (0 : Int) (31 : Int) (fun (rIn : Bool) =>
 cond rIn
 (k true)
 (cond nobody
 (let t : Bool := (decide (n = (-1 : Int)));
 k t)
 (k false)))
def zq5m : zq5k := hid zq5l
noncomputable def zq5n : En := ⟨64, .spec (sg [b27y, b30y] [] [b30y] [] zq5m), pf [zq57] [] [.tmp 4] Tryz.func64 (by kernel_rfl) fun _ _ => by kernel_rfl⟩
abbrev zq5o := {β : Type} → zqw → (Int → Int → Int → Int → t7y → Int → Int → Int → Int → t3y → t25y → t20y → t3y → t9y → Option β) → Option β
abbrev zq5p (β : Type) := Int → Int → Int → Int → t7y → Int → Int → Int → t20y → Int → zqw → t20y → t3y → t25y → t3y → t9y → Option β
abbrev zq5q (β : Type) := Int → Int → Int → Int → Int → t7y → Int → Int → Int → t20y → Int → zqw → t20y → t3y → t25y → t3y → t9y → Option β
noncomputable def zq5r : Pc := ⟨45, 0, Q1 250 (Q2 Tryz.f65), ⟨0, [1, 2, 3, 4], [b29y, b34y, b52y, b27y], [b64y, b32y, .row 179 zqt, .row 3 (.int .i64), .row 177 zqr, .row 3 (.int .i64), .row 146 (.prod (.int .i64) (.prod (.int .i64) (.int .i64)))]⟩, [(.exit 0, ⟨0, [1, 2, 3], [b29y, b34y, b52y], [b64y, b32y, .row 179 zqt, .row 3 (.int .i64), .row 177 zqr, .row 3 (.int .i64), .row 146 (.prod (.int .i64) (.prod (.int .i64) (.int .i64)))]⟩)]⟩
def zq5s {β : Type} (rec : zq5q β) (k1 : zq5p β) : zq5q β := fun i_ x x2 x3 x4 x5 x6 x7 x8 x9 x10 t2 l b3_ b4_ b5_ b6_ =>
 cond (decide (i_ < (List.length x9 : Int)))
 (cond (decide (0 ≤ i_) && decide (i_ < (List.length x9 : Int)))
 (let e : zqs := List.getD x9 (Int.toNat i_) ((0 : Int), ((0 : Int), (([] : List UInt8), ([] : List Int))));
 cond (decide (List.length e.2.2.2 * 8 ≤ Q5))
 (let l2 : List zqs := ([e] : List zqs);
 cond (decide ((List.length l + List.length l2) * 56 ≤ Q5))
 (let l3 : List zqs := (l ++ l2);
 let i_2 : Int := (IntKind.i64.wrap (i_ + (1 : Int)));
 rec i_2 x x2 x3 x4 x5 x6 x7 x8 x9 x10 t2 l3 b3_ b4_ b5_ b6_)
 none)
 none)
 none)
 (k1 x x2 x3 x4 x5 x6 x7 x8 x9 x10 t2 l b3_ b4_ b5_ b6_)
def zq5t (m : Nat) {β : Type} (k1 : zq5p β) : zq5q β := lp17 (fun r => zq5s r k1) none m
theorem zq5u {β : Type} (i : Nat) (k1) : zq5t (β := β) (i + 1) k1 = zq5s (zq5t i k1) k1 := rfl
def zq5v {β : Type} := hid (zq5t (β := β) fuel)
noncomputable def zq5w : Pb := ⟨250, zq5r, fun _ => zq5v, pl (p := zq5r) [] [] (g := fun i _ => zq5t i) (by kernel_rfl) rfl (by kernel_rfl) (fun _ _ => rfl) fun _ _ _ _ => by kernel_rfl⟩
def zq5x : zq5o := fun x k =>
 cond (decide (List.length x.2.2.2.2.2.2.1 * 8 ≤ Q5))
 (cond (decide (List.length x.2.2.2.2.2.2.2.1 * 40 ≤ Q5))
 (cond (decide (List.length x.2.2.2.2.2.2.2.2.2.1 * 8 ≤ Q5))
 (cond (decide (List.length x.2.2.2.2.2.2.2.2.2.2.1 * 24 ≤ Q5))
 (zq5v (fun (x2 : Int) (x3 : Int) (x4 : Int) (x5 : Int) (x6 : List UInt8) (x7 : Int) (x8 : Int) (x9 : Int) (x10 : List zqs) (x11 : Int) (t2 : zqw) (l : List zqs) (b3_ : List Int) (b4_ : List zqq) (b5_ : List Int) (b6_ : List t2y) =>
 k x2 x3 x4 x5 x6 x7 x8 x9 x11 b3_ b4_ l b5_ b6_) (0 : Int) x.1 x.2.1 x.2.2.1 x.2.2.2.1 x.2.2.2.2.1 x.2.2.2.2.2.1.1 x.2.2.2.2.2.1.2.1 x.2.2.2.2.2.1.2.2 x.2.2.2.2.2.2.2.2.1 x.2.2.2.2.2.2.2.2.2.2.2 zq1h ([] : List zqs) x.2.2.2.2.2.2.1 x.2.2.2.2.2.2.2.1 x.2.2.2.2.2.2.2.2.2.1 x.2.2.2.2.2.2.2.2.2.2.1)
 none)
 none)
 none)
 none
def zq5y : zq5o := hid zq5x
noncomputable def zq5z : En := ⟨65, .spec (sg [b43y] [] [(true, [.data (.int .i64), .data (.int .i64), .data (.int .i64), .data (.int .i64), .data .str, .data (.int .i64), .data (.int .i64), .data (.int .i64), .rowh 0, .rowh 1, .rowh 2, .rowh 3, .rowh 4, .data (.int .i64)])] [.row 3 (.int .i64), .row 177 zqr, .row 179 zqt, .row 3 (.int .i64), .row 146 (.prod (.int .i64) (.prod (.int .i64) (.int .i64)))] zq5y), pf [] [zq5w] [.cell 2 46] Tryz.func65 (by kernel_rfl) fun _ _ => by kernel_rfl⟩
abbrev zq60 := {β : Type} → zqw → (Int → Option β) → Option β
abbrev zq61 (β : Type) := Int → Option β
abbrev zq62 (β : Type) := Int → zqw → Option β
noncomputable def zq63 : Pc := ⟨37, 0, Q1 15 (Q2 Tryz.f66), ⟨0, [1, 3], [b29y, b27y], [b32y]⟩, [(.ret, ⟨0, [2], [b27y], []⟩)]⟩
def zq64 {β : Type} (k1 : zq61 β) : zq62 β := fun at_ x =>
 cond (decide ((0 : Int) < (List.length x.2.2.2.2.2.2.2.2.2.2.1 : Int)))
 (cond (decide (0 ≤ (IntKind.i64.wrap ((List.length x.2.2.2.2.2.2.2.2.2.2.1 : Int) - (1 : Int)))) && decide ((IntKind.i64.wrap ((List.length x.2.2.2.2.2.2.2.2.2.2.1 : Int) - (1 : Int))) < (List.length x.2.2.2.2.2.2.2.2.2.2.1 : Int)))
 (let e : t2y := List.getD x.2.2.2.2.2.2.2.2.2.2.1 (Int.toNat (IntKind.i64.wrap ((List.length x.2.2.2.2.2.2.2.2.2.2.1 : Int) - (1 : Int)))) ((0 : Int), ((0 : Int), (0 : Int)));
 let at_2 : Int := (if e.1 > at_ then e.1 else at_);
 k1 at_2)
 none)
 (k1 at_)
def zq65 {β : Type} := hid (zq64 (β := β))
noncomputable def zq66 : Pb := ⟨15, zq63, fun _ => zq65, pe (p := zq63) [] [] 15 (g := fun _ => zq64) (by kernel_rfl) fun _ _ => by kernel_rfl⟩
def zq67 : zq60 := fun x k =>
 cond (decide ((0 : Int) < (List.length x.2.2.2.2.2.2.2.2.1 : Int)))
 (cond (decide (0 ≤ (IntKind.i64.wrap ((List.length x.2.2.2.2.2.2.2.2.1 : Int) - (1 : Int)))) && decide ((IntKind.i64.wrap ((List.length x.2.2.2.2.2.2.2.2.1 : Int) - (1 : Int))) < (List.length x.2.2.2.2.2.2.2.2.1 : Int)))
 (let e : zqs := List.getD x.2.2.2.2.2.2.2.2.1 (Int.toNat (IntKind.i64.wrap ((List.length x.2.2.2.2.2.2.2.2.1 : Int) - (1 : Int)))) ((0 : Int), ((0 : Int), (([] : List UInt8), ([] : List Int))));
 let at_ : Int := (if e.1 > x.2.2.2.1 then e.1 else x.2.2.2.1);
 zq65 (fun (t2 : Int) =>
 k t2) at_ x)
 none)
 (zq65 (fun (t2 : Int) =>
 k t2) x.2.2.2.1 x)
def zq68 : zq60 := hid zq67
noncomputable def zq69 : En := ⟨66, .spec (sg [b43y] [] [b27y] [] zq68), pf [] [zq66] [.tmp 2] Tryz.func66 (by kernel_rfl) fun _ _ => by kernel_rfl⟩
abbrev zq6a := {β : Type} → Int → Int → (Bool → Option β) → Option β
def zq6b : zq6a := fun from_ to_ k =>
 let t : Bool := (decide (from_ = (0 : Int)));
 cond t
 (cond (decide (to_ = (1 : Int)))
 (k true)
 (cond (decide (to_ = (2 : Int)))
 (k true)
 (let t2 : Bool := (decide (to_ = (4 : Int)));
 k t2)))
 (let t2 : Bool := (decide (from_ = (1 : Int)));
 cond t2
 (cond (decide (to_ = (0 : Int)))
 (k true)
 (cond (decide (to_ = (2 : Int)))
 (k true)
 (let t3 : Bool := (decide (to_ = (4 : Int)));
 k t3)))
 (let t3 : Bool := (decide (from_ = (2 : Int)));
 cond t3
 (cond (decide (to_ = (0 : Int)))
 (k true)
 (let t4 : Bool := (decide (to_ = (3 : Int)));
 k t4))
 (k false)))
def zq6c : zq6a := hid zq6b
noncomputable def zq6d : En := ⟨67, .spec (sg [b27y, b27y] [] [b30y] [] zq6c), pf [] [] [.tmp 4] Tryz.func67 (by kernel_rfl) fun _ _ => by kernel_rfl⟩
abbrev zq6e := {β : Type} → zqw → Int → Int → Int → (zqw → Option β) → Option β
def zq6f : zq6e := fun x at_ to_ who k =>
 zq5y x (fun (rCopy : Int) (rCopy2 : Int) (rCopy3 : Int) (rCopy4 : Int) (rCopy5 : List UInt8) (rCopy6 : Int) (rCopy7 : Int) (rCopy8 : Int) (rCopy9 : Int) (lrCopy : List Int) (lrCopy2 : List zqq) (lrCopy3 : List zqs) (lrCopy4 : List Int) (lrCopy5 : List t2y) =>
 let l : List t2y := ([(at_, (to_, who))] : List t2y);
 cond (decide ((List.length lrCopy5 + List.length l) * 24 ≤ Q5))
 (let l2 : List t2y := (lrCopy5 ++ l);
 k (rCopy, (to_, (rCopy3, (rCopy4, (rCopy5, ((rCopy6, (rCopy7, rCopy8)), (lrCopy, (lrCopy2, (lrCopy3, (lrCopy4, (l2, rCopy9))))))))))))
 none)
def zq6g : zq6e := hid zq6f
noncomputable def zq6h : En := ⟨68, .spec (sg [b43y, b27y, b27y, b27y] [] [b43y] [] zq6g), pf [zq5z] [] [.cell 8 46] Tryz.func68 (by kernel_rfl) fun _ _ => by kernel_rfl⟩
abbrev zq6i := {β : Type} → t7y → (Bool → Option β) → Option β
noncomputable def zq6j : List En := [zq57]
abbrev zq6k (β : Type) := Bool → Option β
abbrev zq6l (β : Type) := t7y → Option β
abbrev zq6m (β : Type) := t7y → Int → Option β
noncomputable def zq6n : Pc := ⟨23, 0, Q1 26 (Q2 Tryz.f69), ⟨0, [0, 3], [b63y, b27y], []⟩, [(.ret, ⟨0, [2], [b30y], []⟩), (.exit 0, ⟨0, [0], [b63y], []⟩)]⟩
def zq6o {β : Type} (rec : zq6m β) (k1 : zq6k β) (k2 : zq6l β) : zq6m β := fun s i_ =>
 cond (decide (i_ < (List.length s : Int)))
 (cond (decide (0 ≤ i_) && decide (i_ < (List.length s : Int)))
 (cond (decide (((List.getD s (Int.toNat i_) 0).toNat : Int) < (32 : Int)))
 (k1 false)
 (cond (decide (0 ≤ i_) && decide (i_ < (List.length s : Int)))
 (cond (decide ((126 : Int) < ((List.getD s (Int.toNat i_) 0).toNat : Int)))
 (k1 false)
 (let i_2 : Int := (IntKind.i64.wrap (i_ + (1 : Int)));
 rec s i_2))
 none))
 none)
 (k2 s)
def zq6p (m : Nat) {β : Type} (k1 : zq6k β) (k2 : zq6l β) : zq6m β := lp2 (fun r => zq6o r k1 k2) none m
theorem zq6q {β : Type} (i : Nat) (k1 k2) : zq6p (β := β) (i + 1) k1 k2 = zq6o (zq6p i k1 k2) k1 k2 := rfl
def zq6r {β : Type} := hid (zq6p (β := β) fuel)
noncomputable def zq6s : Pb := ⟨26, zq6n, fun _ => zq6r, pl (p := zq6n) zq6j [] (g := fun i _ => zq6p i) (by kernel_rfl) rfl (by kernel_rfl) (fun _ _ => rfl) fun _ _ _ _ => by kernel_rfl⟩
def zq6t : zq6i := fun s k =>
 zq6r (fun (t2 : Bool) =>
 k t2) (fun (s2 : List UInt8) =>
 zq56 (List.length s2 : Int) (1 : Int) (512 : Int) (fun (rIn : Bool) =>
 k rIn)) s (0 : Int)
def zq6u : zq6i := hid zq6t
noncomputable def zq6v : En := ⟨69, .spec (sg [b63y] [] [b30y] [] zq6u), pf zq6j [zq6s] [.tmp 2] Tryz.func69 (by kernel_rfl) fun _ _ => by kernel_rfl⟩
abbrev zq6w := {β : Type} → t3y → Int → (t3y → Option β) → Option β
abbrev zq6x (β : Type) := Int → Bool → t3y → Option β
abbrev zq6y (β : Type) := t3y → Int → Bool → Int → t3y → Option β
noncomputable def zq6z : Pc := ⟨48, 0, Q1 122 (Q2 Tryz.f70), ⟨0, [0, 1, 5, 6, 7], [b42y, b27y, b50y, b30y, b27y], [.row 3 (.int .i64)]⟩, [(.exit 0, ⟨0, [1, 5, 6], [b27y, b50y, b30y], [.row 3 (.int .i64)]⟩)]⟩
abbrev zq70 (β : Type) := t3y → Int → Bool → Int → t3y → Option β
abbrev zq71 (β : Type) := t3y → Int → Bool → Int → t3y → Option β
noncomputable def zq72 : Pc := ⟨48, 0, Q1 25 (Qb zq6z.c), ⟨0, [0, 1, 5, 6, 7], [b42y, b27y, b50y, b30y, b27y], [.row 3 (.int .i64)]⟩, [(.normal, ⟨0, [0, 1, 5, 6, 7], [b42y, b27y, b50y, b30y, b27y], [.row 3 (.int .i64)]⟩)]⟩
def zq73 {β : Type} (k1 : zq70 β) : zq71 β := fun l x done i_ out =>
 cond (decide (0 ≤ i_) && decide (i_ < (List.length l : Int)))
 (let e : Int := List.getD l (Int.toNat i_) (0 : Int);
 cond (!decide (e = x))
 (cond (decide (0 ≤ i_) && decide (i_ < (List.length l : Int)))
 (let e2 : Int := List.getD l (Int.toNat i_) (0 : Int);
 let l2 : List Int := ([e2] : List Int);
 cond (decide ((List.length out + List.length l2) * 8 ≤ Q5))
 (let l3 : List Int := (out ++ l2);
 k1 l x done i_ l3)
 none)
 none)
 (k1 l x done i_ out))
 none
def zq74 {β : Type} := hid (zq73 (β := β))
noncomputable def zq75 : Pb := ⟨25, zq72, fun _ => zq74, pe (p := zq72) [] [] 25 (g := fun _ => zq73) (by kernel_rfl) fun _ _ => by kernel_rfl⟩
def zq76 {β : Type} (rec : zq6y β) (k1 : zq6x β) : zq6y β := fun l x done i_ out =>
 cond (decide (i_ < (List.length l : Int)))
 (cond (!done)
 (cond (decide (0 ≤ i_) && decide (i_ < (List.length l : Int)))
 (let e : Int := List.getD l (Int.toNat i_) (0 : Int);
 cond (decide (x ≤ e))
 (let l2 : List Int := ([x] : List Int);
 cond (decide ((List.length out + List.length l2) * 8 ≤ Q5))
 (let l3 : List Int := (out ++ l2);
 zq74 (fun (l4 : List Int) (x2 : Int) (done2 : Bool) (i_2 : Int) (out2 : List Int) =>
 let i_3 : Int := (IntKind.i64.wrap (i_2 + (1 : Int)));
 rec l4 x2 done2 i_3 out2) l x true i_ l3)
 none)
 (zq74 (fun (l2 : List Int) (x2 : Int) (done2 : Bool) (i_2 : Int) (out2 : List Int) =>
 let i_3 : Int := (IntKind.i64.wrap (i_2 + (1 : Int)));
 rec l2 x2 done2 i_3 out2) l x done i_ out))
 none)
 (zq74 (fun (l2 : List Int) (x2 : Int) (done2 : Bool) (i_2 : Int) (out2 : List Int) =>
 let i_3 : Int := (IntKind.i64.wrap (i_2 + (1 : Int)));
 rec l2 x2 done2 i_3 out2) l x done i_ out))
 (k1 x done out)
def zq77 (m : Nat) {β : Type} (k1 : zq6x β) : zq6y β := lp5 (fun r => zq76 r k1) none m
theorem zq78 {β : Type} (i : Nat) (k1) : zq77 (β := β) (i + 1) k1 = zq76 (zq77 i k1) k1 := rfl
def zq79 {β : Type} := hid (zq77 (β := β) fuel)
noncomputable def zq7a : Pb := ⟨122, zq6z, fun _ => zq79, pl (p := zq6z) [] [zq75] (g := fun i _ => zq77 i) (by kernel_rfl) rfl (by kernel_rfl) (fun _ _ => rfl) fun _ _ _ _ => by kernel_rfl⟩
def zq7b : zq6w := fun l x k =>
 zq79 (fun (x2 : Int) (done : Bool) (out : List Int) =>
 cond (!done)
 (let l2 : List Int := ([x2] : List Int);
 cond (decide ((List.length out + List.length l2) * 8 ≤ Q5))
 (let l3 : List Int := (out ++ l2);
 k l3)
 none)
 (k out)) l x false (0 : Int) ([] : List Int)
def zq7c : zq6w := hid zq7b
noncomputable def zq7d : En := ⟨70, .spec (sg [b42y, b27y] [] [b50y] [.row 3 (.int .i64)] zq7c), pf [] [zq7a] [.tmp 4] Tryz.func70 (by kernel_rfl) fun _ _ => by kernel_rfl⟩
abbrev zq7e := {β : Type} → zqy → (Int → Int → Int → Int → Int → Int → Int → Int → Int → Int → Int → (List t4y) → t3y → t3y → Option β) → Option β
abbrev zq7f (β : Type) := zqy → zqy → (List t4y) → Option β
abbrev zq7g (β : Type) := Int → zqy → zqy → (List t4y) → Option β
noncomputable def zq7h : Pc := ⟨37, 0, Q1 58 (Q2 Tryz.f72), ⟨0, [1, 2, 3, 4], [b29y, b34y, b52y, b27y], [b38y, b38y, .row 143 (.prod (.int .i64) (.prod (.int .i64) (.slice (.int .i64))))]⟩, [(.exit 0, ⟨0, [1, 2, 3], [b29y, b34y, b52y], [b38y, b38y, .row 143 (.prod (.int .i64) (.prod (.int .i64) (.slice (.int .i64))))]⟩)]⟩
def zq7i {β : Type} (rec : zq7g β) (k1 : zq7f β) : zq7g β := fun i_ p_ t2 l =>
 cond (decide (i_ < (List.length p_.2.2.2.2.2.2.2.2.2.2.2.1 : Int)))
 (cond (decide (0 ≤ i_) && decide (i_ < (List.length p_.2.2.2.2.2.2.2.2.2.2.2.1 : Int)))
 (let e : t4y := List.getD p_.2.2.2.2.2.2.2.2.2.2.2.1 (Int.toNat i_) ((0 : Int), ((0 : Int), ([] : List Int)));
 cond (decide (List.length e.2.2 * 8 ≤ Q5))
 (let l2 : List t4y := ([e] : List t4y);
 cond (decide ((List.length l + List.length l2) * 40 ≤ Q5))
 (let l3 : List t4y := (l ++ l2);
 let i_2 : Int := (IntKind.i64.wrap (i_ + (1 : Int)));
 rec i_2 p_ t2 l3)
 none)
 none)
 none)
 (k1 p_ t2 l)
def zq7j (m : Nat) {β : Type} (k1 : zq7f β) : zq7g β := lp4 (fun r => zq7i r k1) none m
theorem zq7k {β : Type} (i : Nat) (k1) : zq7j (β := β) (i + 1) k1 = zq7i (zq7j i k1) k1 := rfl
def zq7l {β : Type} := hid (zq7j (β := β) fuel)
noncomputable def zq7m : Pb := ⟨58, zq7h, fun _ => zq7l, pl (p := zq7h) [] [] (g := fun i _ => zq7j i) (by kernel_rfl) rfl (by kernel_rfl) (fun _ _ => rfl) fun _ _ _ _ => by kernel_rfl⟩
def zq7n : zq7e := fun p_ k =>
 zq7l (fun (p_2 : zqy) (t2 : zqy) (l : List t4y) =>
 cond (decide (List.length p_2.2.2.2.2.2.2.2.2.2.2.2.2.1 * 8 ≤ Q5))
 (cond (decide (List.length p_2.2.2.2.2.2.2.2.2.2.2.2.2.2 * 8 ≤ Q5))
 (k p_2.1 p_2.2.1 p_2.2.2.1 p_2.2.2.2.1 p_2.2.2.2.2.1 p_2.2.2.2.2.2.1 p_2.2.2.2.2.2.2.1 p_2.2.2.2.2.2.2.2.1 p_2.2.2.2.2.2.2.2.2.1 p_2.2.2.2.2.2.2.2.2.2.1 p_2.2.2.2.2.2.2.2.2.2.2.1 l p_2.2.2.2.2.2.2.2.2.2.2.2.2.1 p_2.2.2.2.2.2.2.2.2.2.2.2.2.2)
 none)
 none) (0 : Int) p_ zq1g ([] : List t4y)
def zq7o : zq7e := hid zq7n
noncomputable def zq7p : En := ⟨72, .spec (sg [b58y] [] [(true, [.data (.int .i64), .data (.int .i64), .data (.int .i64), .data (.int .i64), .data (.int .i64), .data (.int .i64), .data (.int .i64), .data (.int .i64), .data (.int .i64), .data (.int .i64), .data (.int .i64), .rowh 0, .rowh 1, .rowh 2])] [.row 143 (.prod (.int .i64) (.prod (.int .i64) (.slice (.int .i64)))), .row 3 (.int .i64), .row 3 (.int .i64)] zq7o), pf [] [zq7m] [.cell 2 52] Tryz.func72 (by kernel_rfl) fun _ _ => by kernel_rfl⟩
abbrev zq7q := {β : Type} → zqy → (Int → Bool → Option β) → Option β
def zq7r : zq7q := fun p_ k =>
 let t : Bool := (decide (p_.2.2.2.2.2.1 = (0 : Int)));
 cond t
 (k p_.2.2.2.2.1 true)
 (let t2 : Bool := (decide (p_.2.2.2.2.2.1 = (2 : Int)));
 cond t2
 (k p_.2.2.2.2.2.2.2.1 true)
 (k (0 : Int) false))
def zq7s : zq7q := hid zq7r
noncomputable def zq7t : En := ⟨73, .spec (sg [b58y] [] [b27y, b30y] [] zq7s), pf [] [] [.tmp 2, .tmp 3] Tryz.func73 (by kernel_rfl) fun _ _ => by kernel_rfl⟩
abbrev zq7u := {β : Type} → t22y → (Bool → Option β) → Option β
noncomputable def zq7v : List En := [zq57]
abbrev zq7w (β : Type) := Bool → Option β
abbrev zq7x (β : Type) := Unit → Option β
abbrev zq7y (β : Type) := Int → Bool → t22y → Option β
noncomputable def zq7z : Pc := ⟨44, 0, Q1 117 (Q2 Tryz.f75), ⟨0, [1, 26, 27], [b29y, b27y, b30y], [b46y]⟩, [(.ret, ⟨0, [2], [b30y], []⟩), (.normal, ⟨0, [], [], []⟩)]⟩
def zq80 {β : Type} (k1 : zq7w β) (k2 : zq7x β) : zq7y β := fun t26 t27 a =>
 cond t27
 (let t : Bool := (decide (a.2.2.2.2.1 = (0 : Int)));
 k1 t)
 (let t : Bool := (decide (t26 = (3 : Int)));
 cond t
 (zq56 a.2.2.2.2.1 (1 : Int) (86400 : Int) (fun (rIn : Bool) =>
 k1 rIn))
 (let t2 : Bool := (decide (t26 = (4 : Int)));
 cond t2
 (zq56 a.2.2.2.2.1 (0 : Int) (31 : Int) (fun (rIn : Bool) =>
 k1 rIn))
 (k2 ())))
def zq81 {β : Type} := hid (zq80 (β := β))
noncomputable def zq82 : Pb := ⟨117, zq7z, fun _ => zq81, pe (p := zq7z) zq7v [] 117 (g := fun _ => zq80) (by kernel_rfl) fun _ _ => by kernel_rfl⟩
def zq83 : zq7u := fun a k =>
 zq56 a.1 (1 : Int) (999999 : Int) (fun (rIn : Bool) =>
 cond (!rIn)
 (k false)
 (zq56 a.2.1 (1 : Int) (999999 : Int) (fun (rIn2 : Bool) =>
 cond (!rIn2)
 (k false)
 (zq56 a.2.2.1 (-1 : Int) (31 : Int) (fun (rIn3 : Bool) =>
 cond (!rIn3)
 (k false)
 (zq56 a.2.2.2.2.2 (0 : Int) (8589934592 : Int) (fun (rIn4 : Bool) =>
 cond (!rIn4)
 (k false)
 (let t : Bool := (decide (a.2.2.2.1 = (1 : Int)));
 cond t
 (zq81 (fun (t2 : Bool) =>
 k t2) (fun (_ : Unit) =>
 k false) a.2.2.2.1 t a)
 (let t2 : Bool := (decide (a.2.2.2.1 = (2 : Int)));
 cond t2
 (zq81 (fun (t22 : Bool) =>
 k t22) (fun (_ : Unit) =>
 k false) a.2.2.2.1 t2 a)
 (let t3 : Bool := (decide (a.2.2.2.1 = (5 : Int)));
 zq81 (fun (t22 : Bool) =>
 k t22) (fun (_ : Unit) =>
 k false) a.2.2.2.1 t3 a))))))))))
def zq84 : zq7u := hid zq83
noncomputable def zq85 : En := ⟨75, .spec (sg [b72y] [] [b30y] [] zq84), pf zq7v [zq82] [.tmp 2] Tryz.func75 (by kernel_rfl) fun _ _ => by kernel_rfl⟩
abbrev zq86 := {β : Type} → zqy → t22y → (Int → Option β) → Option β
noncomputable def zq87 : List En := [zq7t]
abbrev zq88 (β : Type) := Bool → Option β
abbrev zq89 (β : Type) := Bool → zqy → t22y → Option β
noncomputable def zq8a : Pc := ⟨74, 0, Q1 7415 (Q2 Tryz.f76), ⟨0, [2, 3, 47], [b29y, b34y, b30y], [b38y, b46y]⟩, [(.normal, ⟨0, [47], [b30y], []⟩)]⟩
abbrev zq8b (β : Type) := Int → Option β
abbrev zq8c (β : Type) := Unit → Option β
abbrev zq8d (β : Type) := Bool → zqy → t22y → Option β
noncomputable def zq8e : Pc := ⟨74, 0, Q1 231 (Q2 Tryz.f76), ⟨0, [2, 3, 27], [b29y, b34y, b30y], [b38y, b46y]⟩, [(.ret, ⟨0, [4], [b27y], []⟩), (.normal, ⟨0, [], [], []⟩)]⟩
abbrev zq8f (β : Type) := Bool → zqy → t22y → Option β
abbrev zq8g (β : Type) := Bool → zqy → t22y → Option β
noncomputable def zq8h : Pc := ⟨74, 0, Q1 1847 (Q2 Tryz.f76), ⟨0, [2, 3, 27], [b29y, b34y, b30y], [b38y, b46y]⟩, [(.normal, ⟨0, [2, 3, 27], [b29y, b34y, b30y], [b38y, b46y]⟩)]⟩
abbrev zq8i (β : Type) := Int → Option β
abbrev zq8j (β : Type) := Unit → Option β
abbrev zq8k (β : Type) := Bool → zqy → t22y → Option β
noncomputable def zq8l : Pc := ⟨74, 0, Q1 57 (Q2 Tryz.f76), ⟨0, [2, 3, 12], [b29y, b34y, b30y], [b38y, b46y]⟩, [(.ret, ⟨0, [4], [b27y], []⟩), (.normal, ⟨0, [], [], []⟩)]⟩
def zq8m {β : Type} (k1 : zq88 β) : zq89 β := fun t47 p_ a =>
 cond t47
 (k1 t47)
 (cond (decide (a.2.2.2.1 = (4 : Int)))
 (cond (decide ((4 : Int) ≤ p_.2.2.2.2.2.2.2.2.2.2.1))
 (k1 true)
 (let t : Bool := (decide ((200 : Int) ≤ (List.length p_.2.2.2.2.2.2.2.2.2.2.2.1 : Int)));
 k1 t))
 (k1 false))
def zq8n {β : Type} := hid (zq8m (β := β))
noncomputable def zq8o : Pb := ⟨7415, zq8a, fun _ => zq8n, pe (p := zq8a) zq87 [] 7415 (g := fun _ => zq8m) (by kernel_rfl) fun _ _ => by kernel_rfl⟩
def zq8p {β : Type} (k1 : zq8b β) (k2 : zq8c β) : zq8d β := fun t27 p_ a =>
 cond t27
 (k1 (9 : Int))
 (let t : Bool := (decide ((64 : Int) ≤ (List.length p_.2.2.2.2.2.2.2.2.2.2.2.2.2 : Int)));
 cond t
 (cond t
 (k1 (5 : Int))
 (k2 ()))
 (cond (decide (a.2.2.2.1 = (3 : Int)))
 (let t2 : Bool := (decide ((4 : Int) ≤ p_.2.2.2.2.2.2.2.2.2.1));
 zq8n (fun (t47 : Bool) =>
 cond t47
 (k1 (5 : Int))
 (k2 ())) t2 p_ a)
 (zq8n (fun (t47 : Bool) =>
 cond t47
 (k1 (5 : Int))
 (k2 ())) false p_ a)))
def zq8q {β : Type} := hid (zq8p (β := β))
noncomputable def zq8r : Pb := ⟨231, zq8e, fun _ => zq8q, pe (p := zq8e) zq87 [zq8o] 231 (g := fun _ => zq8p) (by kernel_rfl) fun _ _ => by kernel_rfl⟩
def zq8s {β : Type} (k1 : zq8f β) : zq8g β := fun t27 p_ a =>
 cond t27
 (k1 t27 p_ a)
 (cond (decide (p_.2.2.2.2.2.1 = (1 : Int)))
 (let t : Bool := (decide (a.2.2.2.1 = (2 : Int)));
 k1 t p_ a)
 (k1 false p_ a))
def zq8t {β : Type} := hid (zq8s (β := β))
noncomputable def zq8u : Pb := ⟨1847, zq8h, fun _ => zq8t, pe (p := zq8h) zq87 [] 1847 (g := fun _ => zq8s) (by kernel_rfl) fun _ _ => by kernel_rfl⟩
def zq8v {β : Type} (k1 : zq8i β) (k2 : zq8j β) : zq8k β := fun t12 p_ a =>
 cond t12
 (k1 (6 : Int))
 (let t : Bool := (decide (p_.2.2.2.2.2.1 = (4 : Int)));
 cond t
 (zq8q (fun (t4 : Int) =>
 k1 t4) (fun (_ : Unit) =>
 k2 ()) t p_ a)
 (cond (decide (p_.2.2.2.2.2.1 = (3 : Int)))
 (let t2 : Bool := (!decide (a.2.2.2.1 = (5 : Int)));
 zq8t (fun (t27 : Bool) (p_2 : zqy) (a2 : t22y) =>
 zq8q (fun (t4 : Int) =>
 k1 t4) (fun (_ : Unit) =>
 k2 ()) t27 p_2 a2) t2 p_ a)
 (zq8t (fun (t27 : Bool) (p_2 : zqy) (a2 : t22y) =>
 zq8q (fun (t4 : Int) =>
 k1 t4) (fun (_ : Unit) =>
 k2 ()) t27 p_2 a2) false p_ a)))
def zq8w {β : Type} := hid (zq8v (β := β))
noncomputable def zq8x : Pb := ⟨57, zq8l, fun _ => zq8w, pe (p := zq8l) zq87 [zq8r, zq8u] 57 (g := fun _ => zq8v) (by kernel_rfl) fun _ _ => by kernel_rfl⟩
def zq8y : zq86 := fun p_ a k =>
 zq7s p_ (fun (rDue : Int) (rDue2 : Bool) =>
 cond (decide (a.2.2.2.2.2 < p_.2.2.2.2.2.2.2.2.1))
 (zq8w (fun (t4 : Int) =>
 k t4) (fun (_ : Unit) =>
 k (0 : Int)) true p_ a)
 (cond rDue2
 (let t : Bool := (decide (rDue ≤ a.2.2.2.2.2));
 zq8w (fun (t4 : Int) =>
 k t4) (fun (_ : Unit) =>
 k (0 : Int)) t p_ a)
 (zq8w (fun (t4 : Int) =>
 k t4) (fun (_ : Unit) =>
 k (0 : Int)) false p_ a)))
def zq8z : zq86 := hid zq8y
noncomputable def zq90 : En := ⟨76, .spec (sg [b58y, b72y] [] [b27y] [] zq8z), pf zq87 [zq8x] [.tmp 4] Tryz.func76 (by kernel_rfl) fun _ _ => by kernel_rfl⟩
abbrev zq91 := {β : Type} → zqy → (t3y → Option β) → Option β
def zq92 : zq91 := fun p_ k =>
 cond (decide ((List.length p_.2.2.2.2.2.2.2.2.2.2.2.1 : Int) = (0 : Int)))
 (k ([] : List Int))
 (cond (decide (0 ≤ (IntKind.i64.wrap ((List.length p_.2.2.2.2.2.2.2.2.2.2.2.1 : Int) - (1 : Int)))) && decide ((IntKind.i64.wrap ((List.length p_.2.2.2.2.2.2.2.2.2.2.2.1 : Int) - (1 : Int))) < (List.length p_.2.2.2.2.2.2.2.2.2.2.2.1 : Int)))
 (let e : t4y := List.getD p_.2.2.2.2.2.2.2.2.2.2.2.1 (Int.toNat (IntKind.i64.wrap ((List.length p_.2.2.2.2.2.2.2.2.2.2.2.1 : Int) - (1 : Int)))) ((0 : Int), ((0 : Int), ([] : List Int)));
 cond (decide (List.length e.2.2 * 8 ≤ Q5))
 (k e.2.2)
 none)
 none)
def zq93 : zq91 := hid zq92
noncomputable def zq94 : En := ⟨77, .spec (sg [b58y] [] [b50y] [.row 3 (.int .i64)] zq93), pf [] [] [.tmp 2] Tryz.func77 (by kernel_rfl) fun _ _ => by kernel_rfl⟩
abbrev zq95 := {β : Type} → Int → Int → Int → (Bool → Option β) → Option β
def zq96 : zq95 := fun n low high k =>
 cond (decide (low ≤ n))
 (k (decide (n ≤ high)))
 (k false)
def zq97 : zq95 := hid zq96
noncomputable def zq98 : En := ⟨79, .spec (sg [b27y, b27y, b27y] [] [b30y] [] zq97), pf [] [] [.tmp 6] Tryz.func79 (by kernel_rfl) fun _ _ => by kernel_rfl⟩
abbrev zq99 := {β : Type} → t7y → (Bool → Option β) → Option β
noncomputable def zq9a : List En := [zq98]
abbrev zq9b (β : Type) := Bool → Option β
abbrev zq9c (β : Type) := t7y → Option β
abbrev zq9d (β : Type) := t7y → Int → Int → Option β
noncomputable def zq9e : Pc := ⟨19, 0, Q1 26 (Q2 Tryz.f80), ⟨0, [0, 5, 6], [b63y, b27y, b27y], []⟩, [(.ret, ⟨0, [2], [b30y], []⟩), (.exit 0, ⟨0, [0], [b63y], []⟩)]⟩
def zq9f {β : Type} (rec : zq9d β) (k1 : zq9b β) (k2 : zq9c β) : zq9d β := fun s t5 t6 =>
 cond (decide (t6 < t5))
 (cond (decide (0 ≤ t6) && decide (t6 < (List.length s : Int)))
 (zq97 (IntKind.i64.wrap ((List.getD s (Int.toNat t6) 0).toNat : Int)) (32 : Int) (126 : Int) (fun (rin : Bool) =>
 cond (!rin)
 (k1 false)
 (rec s t5 (IntKind.i64.wrap (t6 + (1 : Int))))))
 none)
 (k2 s)
def zq9g (m : Nat) {β : Type} (k1 : zq9b β) (k2 : zq9c β) : zq9d β := lp3 (fun r => zq9f r k1 k2) none m
theorem zq9h {β : Type} (i : Nat) (k1 k2) : zq9g (β := β) (i + 1) k1 k2 = zq9f (zq9g i k1 k2) k1 k2 := rfl
def zq9i {β : Type} := hid (zq9g (β := β) fuel)
noncomputable def zq9j : Pb := ⟨26, zq9e, fun _ => zq9i, pl (p := zq9e) zq9a [] (g := fun i _ => zq9g i) (by kernel_rfl) rfl (by kernel_rfl) (fun _ _ => rfl) fun _ _ _ _ => by kernel_rfl⟩
def zq9k : zq99 := fun s k =>
 zq9i (fun (t2 : Bool) =>
 k t2) (fun (s2 : List UInt8) =>
 zq97 (List.length s2 : Int) (1 : Int) (512 : Int) (fun (rin : Bool) =>
 k rin)) s (List.length s : Int) (0 : Int)
def zq9l : zq99 := hid zq9k
noncomputable def zq9m : En := ⟨80, .spec (sg [b63y] [] [b30y] [] zq9l), pf zq9a [zq9j] [.tmp 2] Tryz.func80 (by kernel_rfl) fun _ _ => by kernel_rfl⟩
abbrev zq9n := {β : Type} → t3y → Int → Int → (Bool → Option β) → Option β
noncomputable def zq9o : List En := [zq98]
abbrev zq9p (β : Type) := Bool → Option β
abbrev zq9q (β : Type) := Unit → Option β
abbrev zq9r (β : Type) := t3y → Int → Int → t3y → Int → Int → Option β
noncomputable def zq9s : Pc := ⟨35, 0, Q1 26 (Q2 Tryz.f82), ⟨0, [0, 1, 2, 9, 10, 11], [b42y, b27y, b27y, b42y, b27y, b27y], []⟩, [(.ret, ⟨0, [6], [b30y], []⟩), (.exit 0, ⟨0, [], [], []⟩)]⟩
def zq9t {β : Type} (rec : zq9r β) (k1 : zq9p β) (k2 : zq9q β) : zq9r β := fun l low high t9 t10 t11 =>
 cond (decide (t11 < t10))
 (cond (decide (0 ≤ t11) && decide (t11 < (List.length t9 : Int)))
 (let e : Int := List.getD t9 (Int.toNat t11) (0 : Int);
 zq97 e low high (fun (rin : Bool) =>
 cond (!rin)
 (k1 false)
 (cond (decide ((0 : Int) < t11))
 (cond (decide (0 ≤ (IntKind.i64.wrap (t11 - (1 : Int)))) && decide ((IntKind.i64.wrap (t11 - (1 : Int))) < (List.length l : Int)))
 (let e2 : Int := List.getD l (Int.toNat (IntKind.i64.wrap (t11 - (1 : Int)))) (0 : Int);
 cond (decide (e ≤ e2))
 (k1 false)
 (rec l low high t9 t10 (IntKind.i64.wrap (t11 + (1 : Int)))))
 none)
 (rec l low high t9 t10 (IntKind.i64.wrap (t11 + (1 : Int)))))))
 none)
 (k2 ())
def zq9u (m : Nat) {β : Type} (k1 : zq9p β) (k2 : zq9q β) : zq9r β := lp6 (fun r => zq9t r k1 k2) none m
theorem zq9v {β : Type} (i : Nat) (k1 k2) : zq9u (β := β) (i + 1) k1 k2 = zq9t (zq9u i k1 k2) k1 k2 := rfl
def zq9w {β : Type} := hid (zq9u (β := β) fuel)
noncomputable def zq9x : Pb := ⟨26, zq9s, fun _ => zq9w, pl (p := zq9s) zq9o [] (g := fun i _ => zq9u i) (by kernel_rfl) rfl (by kernel_rfl) (fun _ _ => rfl) fun _ _ _ _ => by kernel_rfl⟩
def zq9y : zq9n := fun l low high k =>
 zq9w (fun (t6 : Bool) =>
 k t6) (fun (_ : Unit) =>
 k true) l low high l (List.length l : Int) (0 : Int)
def zq9z : zq9n := hid zq9y
noncomputable def zqa0 : En := ⟨82, .spec (sg [b42y, b27y, b27y] [] [b30y] [] zq9z), pf zq9o [zq9x] [.tmp 6] Tryz.func82 (by kernel_rfl) fun _ _ => by kernel_rfl⟩
abbrev zqa1 := {β : Type} → t3y → (Bool → Option β) → Option β
def zqa2 : zqa1 := fun l k =>
 zq9z l (0 : Int) (31 : Int) (fun (rset : Bool) =>
 k rset)
def zqa3 : zqa1 := hid zqa2
noncomputable def zqa4 : En := ⟨83, .spec (sg [b42y] [] [b30y] [] zqa3), pf [zqa0] [] [.tmp 2] Tryz.func83 (by kernel_rfl) fun _ _ => by kernel_rfl⟩
abbrev zqa5 := {β : Type} → zqw → (Bool → Option β) → Option β
noncomputable def zqa6 : List En := [zq9m, zq98, zqa4]
abbrev zqa7 (β : Type) := Bool → Option β
abbrev zqa8 (β : Type) := zqw → Option β
abbrev zqa9 (β : Type) := Int → t20y → Int → Int → zqw → Option β
noncomputable def zqaa : Pc := ⟨45, 0, Q1 58 (Q2 Tryz.f85), ⟨0, [1, 3, 9, 10, 11], [b29y, b27y, (false, [.data (.slice zqt)]), b27y, b27y], [b32y]⟩, [(.ret, ⟨0, [2], [b30y], []⟩), (.exit 0, ⟨0, [1], [b29y], [b32y]⟩)]⟩
def zqab {β : Type} (rec : zqa9 β) (k1 : zqa7 β) (k2 : zqa8 β) : zqa9 β := fun at_ t9 t10 t11 x =>
 cond (decide (t11 < t10))
 (cond (decide (0 ≤ t11) && decide (t11 < (List.length t9 : Int)))
 (let e : zqs := List.getD t9 (Int.toNat t11) ((0 : Int), ((0 : Int), (([] : List UInt8), ([] : List Int))));
 zq97 e.1 at_ (8589934592 : Int) (fun (rin : Bool) =>
 cond (!rin)
 (k1 false)
 (zq97 e.2.1 (0 : Int) (4 : Int) (fun (rin2 : Bool) =>
 cond (!rin2)
 (k1 false)
 (zq9l e.2.2.1 (fun (rText : Bool) =>
 cond (!rText)
 (k1 false)
 (zqa3 e.2.2.2 (fun (rpersons : Bool) =>
 cond (!rpersons)
 (k1 false)
 (rec e.1 t9 t10 (IntKind.i64.wrap (t11 + (1 : Int))) x)))))))))
 none)
 (k2 x)
def zqac (m : Nat) {β : Type} (k1 : zqa7 β) (k2 : zqa8 β) : zqa9 β := lp5 (fun r => zqab r k1 k2) none m
theorem zqad {β : Type} (i : Nat) (k1 k2) : zqac (β := β) (i + 1) k1 k2 = zqab (zqac i k1 k2) k1 k2 := rfl
def zqae {β : Type} := hid (zqac (β := β) fuel)
noncomputable def zqaf : Pb := ⟨58, zqaa, fun _ => zqae, pl (p := zqaa) zqa6 [] (g := fun i _ => zqac i) (by kernel_rfl) rfl (by kernel_rfl) (fun _ _ => rfl) fun _ _ _ _ => by kernel_rfl⟩
def zqag : zqa5 := fun x k =>
 zqae (fun (t2 : Bool) =>
 k t2) (fun (x2 : zqw) =>
 let t : Bool := (decide ((List.length x2.2.2.2.2.2.2.2.2.1 : Int) ≤ (32 : Int)));
 k t) x.2.2.2.1 x.2.2.2.2.2.2.2.2.1 (List.length x.2.2.2.2.2.2.2.2.1 : Int) (0 : Int) x
def zqah : zqa5 := hid zqag
noncomputable def zqai : En := ⟨85, .spec (sg [b43y] [] [b30y] [] zqah), pf zqa6 [zqaf] [.tmp 2] Tryz.func85 (by kernel_rfl) fun _ _ => by kernel_rfl⟩
abbrev zqaj := {β : Type} → t3y → Int → (Int → Option β) → Option β
abbrev zqak (β : Type) := Int → Option β
abbrev zqal (β : Type) := Unit → Option β
abbrev zqam (β : Type) := t3y → Int → Int → Int → Option β
noncomputable def zqan : Pc := ⟨19, 0, Q1 26 (Q2 Tryz.f87), ⟨0, [0, 1, 7, 8], [b42y, b27y, b27y, b27y], []⟩, [(.ret, ⟨0, [4], [b27y], []⟩), (.exit 0, ⟨0, [], [], []⟩)]⟩
def zqao {β : Type} (rec : zqam β) (k1 : zqak β) (k2 : zqal β) : zqam β := fun s v t7 t8 =>
 cond (decide (t8 < t7))
 (cond (decide (0 ≤ t8) && decide (t8 < (List.length s : Int)))
 (let e : Int := List.getD s (Int.toNat t8) (0 : Int);
 cond (decide (v = e))
 (k1 t8)
 (rec s v t7 (IntKind.i64.wrap (t8 + (1 : Int)))))
 none)
 (k2 ())
def zqap (m : Nat) {β : Type} (k1 : zqak β) (k2 : zqal β) : zqam β := lp4 (fun r => zqao r k1 k2) none m
theorem zqaq {β : Type} (i : Nat) (k1 k2) : zqap (β := β) (i + 1) k1 k2 = zqao (zqap i k1 k2) k1 k2 := rfl
def zqar {β : Type} := hid (zqap (β := β) fuel)
noncomputable def zqas : Pb := ⟨26, zqan, fun _ => zqar, pl (p := zqan) [] [] (g := fun i _ => zqap i) (by kernel_rfl) rfl (by kernel_rfl) (fun _ _ => rfl) fun _ _ _ _ => by kernel_rfl⟩
def zqat : zqaj := fun s v k =>
 zqar (fun (t4 : Int) =>
 k t4) (fun (_ : Unit) =>
 k (-1 : Int)) s v (List.length s : Int) (0 : Int)
def zqau : zqaj := hid zqat
noncomputable def zqav : En := ⟨87, .spec (sg [b42y, b27y] [] [b27y] [] zqau), pf [] [zqas] [.tmp 4] Tryz.func87 (by kernel_rfl) fun _ _ => by kernel_rfl⟩
abbrev zqaw := {β : Type} → Int → (Bool → Option β) → Option β
def zqax : zqaw := fun n k =>
 zq56 n (0 : Int) (4 : Int) (fun (rIn : Bool) =>
 k rIn)
def zqay : zqaw := hid zqax
noncomputable def zqaz : En := ⟨88, .spec (sg [b27y] [] [b30y] [] zqay), pf [zq57] [] [.tmp 2] Tryz.func88 (by kernel_rfl) fun _ _ => by kernel_rfl⟩
abbrev zqb0 := {β : Type} → t3y → Int → (Bool → Option β) → Option β
abbrev zqb1 (β : Type) := Bool → Option β
abbrev zqb2 (β : Type) := Unit → Option β
abbrev zqb3 (β : Type) := t3y → Int → Int → Option β
noncomputable def zqb4 : Pc := ⟨41, 0, Q1 26 (Q2 Tryz.f89), ⟨0, [0, 1, 5], [b42y, b27y, b27y], []⟩, [(.ret, ⟨0, [4], [b30y], []⟩), (.exit 0, ⟨0, [], [], []⟩)]⟩
def zqb5 {β : Type} (rec : zqb3 β) (k1 : zqb1 β) (k2 : zqb2 β) : zqb3 β := fun l n i_ =>
 cond (decide (i_ < (List.length l : Int)))
 (cond (decide (0 ≤ i_) && decide (i_ < (List.length l : Int)))
 (let e : Int := List.getD l (Int.toNat i_) (0 : Int);
 cond (decide (e < (0 : Int)))
 (k1 false)
 (cond (decide (0 ≤ i_) && decide (i_ < (List.length l : Int)))
 (let e2 : Int := List.getD l (Int.toNat i_) (0 : Int);
 cond (decide (n ≤ e2))
 (k1 false)
 (cond (decide ((0 : Int) < i_))
 (cond (decide (0 ≤ (IntKind.i64.wrap (i_ - (1 : Int)))) && decide ((IntKind.i64.wrap (i_ - (1 : Int))) < (List.length l : Int)))
 (let e3 : Int := List.getD l (Int.toNat (IntKind.i64.wrap (i_ - (1 : Int)))) (0 : Int);
 cond (decide (0 ≤ i_) && decide (i_ < (List.length l : Int)))
 (let e4 : Int := List.getD l (Int.toNat i_) (0 : Int);
 cond (decide (e4 ≤ e3))
 (k1 false)
 (let i_2 : Int := (IntKind.i64.wrap (i_ + (1 : Int)));
 rec l n i_2))
 none)
 none)
 (let i_2 : Int := (IntKind.i64.wrap (i_ + (1 : Int)));
 rec l n i_2)))
 none))
 none)
 (k2 ())
def zqb6 (m : Nat) {β : Type} (k1 : zqb1 β) (k2 : zqb2 β) : zqb3 β := lp3 (fun r => zqb5 r k1 k2) none m
theorem zqb7 {β : Type} (i : Nat) (k1 k2) : zqb6 (β := β) (i + 1) k1 k2 = zqb5 (zqb6 i k1 k2) k1 k2 := rfl
def zqb8 {β : Type} := hid (zqb6 (β := β) fuel)
noncomputable def zqb9 : Pb := ⟨26, zqb4, fun _ => zqb8, pl (p := zqb4) [] [] (g := fun i _ => zqb6 i) (by kernel_rfl) rfl (by kernel_rfl) (fun _ _ => rfl) fun _ _ _ _ => by kernel_rfl⟩
def zqba : zqb0 := fun l n k =>
 zqb8 (fun (t4 : Bool) =>
 k t4) (fun (_ : Unit) =>
 k true) l n (0 : Int)
def zqbb : zqb0 := hid zqba
noncomputable def zqbc : En := ⟨89, .spec (sg [b42y, b27y] [] [b30y] [] zqbb), pf [] [zqb9] [.tmp 4] Tryz.func89 (by kernel_rfl) fun _ _ => by kernel_rfl⟩
abbrev zqbd := {β : Type} → zqw → (Bool → Option β) → Option β
noncomputable def zqbe : List En := [zq57, zqbc, zq6v, zq5n, zqaz]
abbrev zqbf (β : Type) := Bool → Option β
abbrev zqbg (β : Type) := zqw → Option β
abbrev zqbh (β : Type) := Int → zqw → Option β
noncomputable def zqbi : Pc := ⟨138, 0, Q1 26 (Q2 Tryz.f90), ⟨0, [1, 3], [b29y, b27y], [b32y]⟩, [(.ret, ⟨0, [2], [b30y], []⟩), (.exit 0, ⟨0, [1], [b29y], [b32y]⟩)]⟩
abbrev zqbj (β : Type) := Bool → Option β
abbrev zqbk (β : Type) := zqw → Option β
abbrev zqbl (β : Type) := Int → Int → zqw → Option β
noncomputable def zqbm : Pc := ⟨138, 0, Q1 122 (Q2 Tryz.f90), ⟨0, [1, 5, 6], [b29y, b27y, b27y], [b32y]⟩, [(.ret, ⟨0, [2], [b30y], []⟩), (.exit 2, ⟨0, [1], [b29y], [b32y]⟩)]⟩
abbrev zqbn (β : Type) := Bool → Option β
abbrev zqbo (β : Type) := Int → zqw → Option β
abbrev zqbp (β : Type) := Int → Int → Int → zqw → Option β
noncomputable def zqbq : Pc := ⟨138, 0, Q1 1018 (Q2 Tryz.f90), ⟨0, [1, 5, 8, 9], [b29y, b27y, b27y, b27y], [b32y]⟩, [(.ret, ⟨0, [2], [b30y], []⟩), (.exit 4, ⟨0, [1, 8], [b29y, b27y], [b32y]⟩)]⟩
def zqbr {β : Type} (rec : zqbh β) (k1 : zqbf β) (k2 : zqbg β) : zqbh β := fun i_ x =>
 cond (decide (i_ < (List.length x.2.2.2.2.2.2.2.1 : Int)))
 (cond (decide (0 ≤ i_) && decide (i_ < (List.length x.2.2.2.2.2.2.2.1 : Int)))
 (let e : zqq := List.getD x.2.2.2.2.2.2.2.1 (Int.toNat i_) (([] : List UInt8), ((0 : Int), ((0 : Int), (0 : Int))));
 zq6u e.1 (fun (rText : Bool) =>
 cond (!rText)
 (k1 false)
 (zq5m e.2.1 true (fun (rperson : Bool) =>
 cond (!rperson)
 (k1 false)
 (zq56 e.2.2.1 x.2.2.2.1 (8589934592 : Int) (fun (rIn : Bool) =>
 cond (!rIn)
 (k1 false)
 (cond (!decide (e.2.2.2 = (-1 : Int)))
 (zq56 e.2.2.2 e.2.2.1 (8589934592 : Int) (fun (rIn2 : Bool) =>
 cond (!rIn2)
 (k1 false)
 (let i_2 : Int := (IntKind.i64.wrap (i_ + (1 : Int)));
 rec i_2 x)))
 (let i_2 : Int := (IntKind.i64.wrap (i_ + (1 : Int)));
 rec i_2 x))))))))
 none)
 (k2 x)
def zqbs (m : Nat) {β : Type} (k1 : zqbf β) (k2 : zqbg β) : zqbh β := lp2 (fun r => zqbr r k1 k2) none m
theorem zqbt {β : Type} (i : Nat) (k1 k2) : zqbs (β := β) (i + 1) k1 k2 = zqbr (zqbs i k1 k2) k1 k2 := rfl
def zqbu {β : Type} := hid (zqbs (β := β) fuel)
noncomputable def zqbv : Pb := ⟨26, zqbi, fun _ => zqbu, pl (p := zqbi) zqbe [] (g := fun i _ => zqbs i) (by kernel_rfl) rfl (by kernel_rfl) (fun _ _ => rfl) fun _ _ _ _ => by kernel_rfl⟩
def zqbw {β : Type} (rec : zqbl β) (k1 : zqbj β) (k2 : zqbk β) : zqbl β := fun at_ i_ x =>
 cond (decide (i_ < (List.length x.2.2.2.2.2.2.2.2.1 : Int)))
 (cond (decide (0 ≤ i_) && decide (i_ < (List.length x.2.2.2.2.2.2.2.2.1 : Int)))
 (let e : zqs := List.getD x.2.2.2.2.2.2.2.2.1 (Int.toNat i_) ((0 : Int), ((0 : Int), (([] : List UInt8), ([] : List Int))));
 zq6u e.2.2.1 (fun (rText : Bool) =>
 cond (!rText)
 (k1 false)
 (zqay e.2.1 (fun (rstate : Bool) =>
 cond (!rstate)
 (k1 false)
 (zqbb e.2.2.2 (32 : Int) (fun (rSet : Bool) =>
 cond (!rSet)
 (k1 false)
 (zq56 e.1 at_ (8589934592 : Int) (fun (rIn : Bool) =>
 cond (!rIn)
 (k1 false)
 (let i_2 : Int := (IntKind.i64.wrap (i_ + (1 : Int)));
 rec e.1 i_2 x)))))))))
 none)
 (k2 x)
def zqbx (m : Nat) {β : Type} (k1 : zqbj β) (k2 : zqbk β) : zqbl β := lp3 (fun r => zqbw r k1 k2) none m
theorem zqby {β : Type} (i : Nat) (k1 k2) : zqbx (β := β) (i + 1) k1 k2 = zqbw (zqbx i k1 k2) k1 k2 := rfl
def zqbz {β : Type} := hid (zqbx (β := β) fuel)
noncomputable def zqc0 : Pb := ⟨122, zqbm, fun _ => zqbz, pl (p := zqbm) zqbe [] (g := fun i _ => zqbx i) (by kernel_rfl) rfl (by kernel_rfl) (fun _ _ => rfl) fun _ _ _ _ => by kernel_rfl⟩
def zqc1 {β : Type} (rec : zqbp β) (k1 : zqbn β) (k2 : zqbo β) : zqbp β := fun at_ now i_ x =>
 cond (decide (i_ < (List.length x.2.2.2.2.2.2.2.2.2.2.1 : Int)))
 (cond (decide (0 ≤ i_) && decide (i_ < (List.length x.2.2.2.2.2.2.2.2.2.2.1 : Int)))
 (let e : t2y := List.getD x.2.2.2.2.2.2.2.2.2.2.1 (Int.toNat i_) ((0 : Int), ((0 : Int), (0 : Int)));
 zqay e.2.1 (fun (rstate : Bool) =>
 cond (!rstate)
 (k1 false)
 (cond (decide (e.2.1 = now))
 (k1 false)
 (zq5m e.2.2 true (fun (rperson : Bool) =>
 cond (!rperson)
 (k1 false)
 (zq56 e.1 at_ (8589934592 : Int) (fun (rIn : Bool) =>
 cond (!rIn)
 (k1 false)
 (let i_2 : Int := (IntKind.i64.wrap (i_ + (1 : Int)));
 rec e.1 e.2.1 i_2 x))))))))
 none)
 (k2 now x)
def zqc2 (m : Nat) {β : Type} (k1 : zqbn β) (k2 : zqbo β) : zqbp β := lp4 (fun r => zqc1 r k1 k2) none m
theorem zqc3 {β : Type} (i : Nat) (k1 k2) : zqc2 (β := β) (i + 1) k1 k2 = zqc1 (zqc2 i k1 k2) k1 k2 := rfl
def zqc4 {β : Type} := hid (zqc2 (β := β) fuel)
noncomputable def zqc5 : Pb := ⟨1018, zqbq, fun _ => zqc4, pl (p := zqbq) zqbe [] (g := fun i _ => zqc2 i) (by kernel_rfl) rfl (by kernel_rfl) (fun _ _ => rfl) fun _ _ _ _ => by kernel_rfl⟩
def zqc6 : zqbd := fun x k =>
 zqbu (fun (t2 : Bool) =>
 k t2) (fun (x2 : zqw) =>
 zqbz (fun (t2 : Bool) =>
 k t2) (fun (x3 : zqw) =>
 zqc4 (fun (t2 : Bool) =>
 k t2) (fun (now : Int) (x4 : zqw) =>
 k (decide (now = x4.2.1))) x3.2.2.2.1 (0 : Int) (0 : Int) x3) x2.2.2.2.1 (0 : Int) x2) (0 : Int) x
def zqc7 : zqbd := hid zqc6
noncomputable def zqc8 : En := ⟨90, .spec (sg [b43y] [] [b30y] [] zqc7), pf zqbe [zqbv, zqc0, zqc5] [.tmp 2] Tryz.func90 (by kernel_rfl) fun _ _ => by kernel_rfl⟩
abbrev zqc9 := {β : Type} → t0y → (Bool → Option β) → Option β
def zqca : zqc9 := fun r_ k =>
 zq52 r_.1 (0 : Int) r_.2 (fun (rin : Bool) =>
 cond (!rin)
 (k true)
 (let t : Bool := (decide ((1099511627776 : Int) < r_.2));
 k t))
def zqcb : zqc9 := hid zqca
noncomputable def zqcc : En := ⟨95, .spec (sg [b35y] [] [b30y] [] zqcb), pf [zq53] [] [.tmp 2] Tryz.func95 (by kernel_rfl) fun _ _ => by kernel_rfl⟩
abbrev zqcd := {β : Type} → Int → (Bool → Option β) → Option β
def zqce : zqcd := fun n k =>
 cond (decide ((-4611686018427387904 : Int) ≤ n))
 (let t : Bool := (decide (n ≤ (4611686018427387904 : Int)));
 k t)
 (k false)
def zqcf : zqcd := hid zqce
noncomputable def zqcg : En := ⟨96, .spec (sg [b27y] [] [b30y] [] zqcf), pf [] [] [.tmp 2] Tryz.func96 (by kernel_rfl) fun _ _ => by kernel_rfl⟩
abbrev zqch := {β : Type} → Int → Int → (Int → Option β) → Option β
abbrev zqci (β : Type) := Int → Option β
abbrev zqcj (β : Type) := Int → Int → Option β
noncomputable def zqck : Pc := ⟨12, 0, Q1 12 (Q2 Tryz.f97), ⟨0, [0, 1], [b27y, b27y], []⟩, [(.exit 0, ⟨0, [0], [b27y], []⟩)]⟩
def zqcl {β : Type} (rec : zqcj β) (k1 : zqci β) : zqcj β := fun a b =>
 cond (!decide (b = (0 : Int)))
 (cond (!decide (b = 0))
 (rec b (Int.tmod a b))
 none)
 (k1 a)
def zqcm (m : Nat) {β : Type} (k1 : zqci β) : zqcj β := lp2 (fun r => zqcl r k1) none m
theorem zqcn {β : Type} (i : Nat) (k1) : zqcm (β := β) (i + 1) k1 = zqcl (zqcm i k1) k1 := rfl
def zqco {β : Type} := hid (zqcm (β := β) fuel)
noncomputable def zqcp : Pb := ⟨12, zqck, fun _ => zqco, pl (p := zqck) [] [] (g := fun i _ => zqcm i) (by kernel_rfl) rfl (by kernel_rfl) (fun _ _ => rfl) fun _ _ _ _ => by kernel_rfl⟩
def zqcq : zqch := fun a b k =>
 zqco (fun (a2 : Int) =>
 k a2) a b
def zqcr : zqch := hid zqcq
noncomputable def zqcs : En := ⟨97, .spec (sg [b27y, b27y] [] [b27y] [] zqcr), pf [] [zqcp] [.tmp 4] Tryz.func97 (by kernel_rfl) fun _ _ => by kernel_rfl⟩
abbrev zqct := {β : Type} → Int → (Int → Option β) → Option β
def zqcu : zqct := fun n k =>
 cond (decide (n < (0 : Int)))
 (let t : Int := (IntKind.i64.wrap (0 - n));
 k t)
 (k n)
def zqcv : zqct := hid zqcu
noncomputable def zqcw : En := ⟨98, .spec (sg [b27y] [] [b27y] [] zqcv), pf [] [] [.tmp 2] Tryz.func98 (by kernel_rfl) fun _ _ => by kernel_rfl⟩
abbrev zqcx := {β : Type} → Int → (Bool → Option β) → Option β
def zqcy : zqcx := fun n k =>
 cond (decide ((-4611686018427387904 : Int) ≤ n))
 (let t : Bool := (decide (n ≤ (4611686018427387904 : Int)));
 k t)
 (k false)
def zqcz : zqcx := hid zqcy
noncomputable def zqd0 : En := ⟨99, .spec (sg [b27y] [] [b30y] [] zqcz), pf [] [] [.tmp 2] Tryz.func99 (by kernel_rfl) fun _ _ => by kernel_rfl⟩
abbrev zqd1 := {β : Type} → Int → Int → (Int → Option β) → Option β
abbrev zqd2 (β : Type) := Int → Option β
abbrev zqd3 (β : Type) := Int → Int → Option β
noncomputable def zqd4 : Pc := ⟨12, 0, Q1 12 (Q2 Tryz.f100), ⟨0, [0, 1], [b27y, b27y], []⟩, [(.exit 0, ⟨0, [0], [b27y], []⟩)]⟩
def zqd5 {β : Type} (rec : zqd3 β) (k1 : zqd2 β) : zqd3 β := fun a b =>
 cond (!decide (b = (0 : Int)))
 (cond (!decide (b = 0))
 (rec b (Int.tmod a b))
 none)
 (k1 a)
def zqd6 (m : Nat) {β : Type} (k1 : zqd2 β) : zqd3 β := lp2 (fun r => zqd5 r k1) none m
theorem zqd7 {β : Type} (i : Nat) (k1) : zqd6 (β := β) (i + 1) k1 = zqd5 (zqd6 i k1) k1 := rfl
def zqd8 {β : Type} := hid (zqd6 (β := β) fuel)
noncomputable def zqd9 : Pb := ⟨12, zqd4, fun _ => zqd8, pl (p := zqd4) [] [] (g := fun i _ => zqd6 i) (by kernel_rfl) rfl (by kernel_rfl) (fun _ _ => rfl) fun _ _ _ _ => by kernel_rfl⟩
def zqda : zqd1 := fun a b k =>
 zqd8 (fun (a2 : Int) =>
 k a2) a b
def zqdb : zqd1 := hid zqda
noncomputable def zqdc : En := ⟨100, .spec (sg [b27y, b27y] [] [b27y] [] zqdb), pf [] [zqd9] [.tmp 4] Tryz.func100 (by kernel_rfl) fun _ _ => by kernel_rfl⟩
abbrev zqdd := {β : Type} → Int → (Int → Option β) → Option β
def zqde : zqdd := fun n k =>
 cond (decide (n < (0 : Int)))
 (let t : Int := (IntKind.i64.wrap (0 - n));
 k t)
 (k n)
def zqdf : zqdd := hid zqde
noncomputable def zqdg : En := ⟨101, .spec (sg [b27y] [] [b27y] [] zqdf), pf [] [] [.tmp 2] Tryz.func101 (by kernel_rfl) fun _ _ => by kernel_rfl⟩
abbrev zqdh := {β : Type} → t10y → (t3y → t3y → Option β) → Option β
abbrev zqdi (β : Type) := t3y → t3y → t3y → t3y → Option β
abbrev zqdj (β : Type) := t10y → Int → Int → t3y → t3y → t3y → t3y → Option β
noncomputable def zqdk : Pc := ⟨28, 0, Q1 58 (Q2 Tryz.f102), ⟨0, [2, 3, 6, 7, 8], [b29y, b34y, b31y, b27y, b27y], [.cells 164 [.rowh 2, .rowh 3], .cells 164 [.rowh 4, .rowh 5], .row 3 (.int .i64), .row 3 (.int .i64), .row 3 (.int .i64), .row 3 (.int .i64)]⟩, [(.exit 0, ⟨0, [2, 3], [b29y, b34y], [.cells 164 [.rowh 2, .rowh 3], .cells 164 [.rowh 4, .rowh 5], .row 3 (.int .i64), .row 3 (.int .i64), .row 3 (.int .i64), .row 3 (.int .i64)]⟩)]⟩
def zqdl {β : Type} (rec : zqdj β) (k1 : zqdi β) : zqdj β := fun t6 t7 t8 b2_ b3_ b4_ b5_ =>
 cond (decide (t8 < t7))
 (cond (decide (0 ≤ t8) && decide (t8 < (List.length t6 : Int)))
 (let e : t0y := List.getD t6 (Int.toNat t8) ((0 : Int), (0 : Int));
 let l : List Int := ([e.1] : List Int);
 cond (decide ((List.length b4_ + List.length l) * 8 ≤ Q5))
 (let l2 : List Int := (b4_ ++ l);
 let l3 : List Int := ([e.2] : List Int);
 cond (decide ((List.length b5_ + List.length l3) * 8 ≤ Q5))
 (let l4 : List Int := (b5_ ++ l3);
 rec t6 t7 (IntKind.i64.wrap (t8 + (1 : Int))) b2_ b3_ l2 l4)
 none)
 none)
 none)
 (k1 b2_ b3_ b4_ b5_)
def zqdm (m : Nat) {β : Type} (k1 : zqdi β) : zqdj β := lp7 (fun r => zqdl r k1) none m
theorem zqdn {β : Type} (i : Nat) (k1) : zqdm (β := β) (i + 1) k1 = zqdl (zqdm i k1) k1 := rfl
def zqdo {β : Type} := hid (zqdm (β := β) fuel)
noncomputable def zqdp : Pb := ⟨58, zqdk, fun _ => zqdo, pl (p := zqdk) [] [] (g := fun i _ => zqdm i) (by kernel_rfl) rfl (by kernel_rfl) (fun _ _ => rfl) fun _ _ _ _ => by kernel_rfl⟩
def zqdq : zqdh := fun l k =>
 zqdo (fun (b2_ : List Int) (b3_ : List Int) (b4_ : List Int) (b5_ : List Int) =>
 k b4_ b5_) l (List.length l : Int) (0 : Int) ([] : List Int) ([] : List Int) ([] : List Int) ([] : List Int)
def zqdr : zqdh := hid zqdq
noncomputable def zqds : En := ⟨102, .spec (sg [b31y] [] [(true, [.rowh 0, .rowh 1])] [.row 3 (.int .i64), .row 3 (.int .i64)] zqdr), pf [] [zqdp] [.cell 2 164] Tryz.func102 (by kernel_rfl) fun _ _ => by kernel_rfl⟩
def zqdt : Shelf.Ren :=
   {
   f := fun x =>
    match x with
    | 189 => 103
    | 125 => 118
    | 257 => 117
    | 128 => 140
    | 129 => 141
    | 294 => 131
    | 295 => 132
    | 296 => 133
    | 297 => 134
    | 298 => 135
    | 299 => 136
    | 216 => 137
    | 300 => 138
    | 301 => 139
    | 328 => 161
    | 329 => 162
    | 330 => 163
    | 331 => 164
    | 332 => 165
    | 215 => 166
    | 343 => 177
    | n => n,
   t := fun x =>
    match x with
    | 28 => 22
    | 3 => 3
    | 46 => 217
    | 0 => 0
    | 51 => 234
    | 53 => 236
    | 4 => 4
    | 183 => 229
    | 182 => 228
    | 131 => 182
    | 5 => 5
    | 9 => 9
    | 218 => 247
    | 222 => 251
    | 228 => 258
    | 229 => 87
    | n => n,
   g := fun x => x }
theorem zqdu : Go.Proofs.Lays.n189 Tryz.prog zqdt :=
 {
  mixed := by kernel_rfl,
  f125 := Eq.trans Tryz.func118 (congrArg some (by kernel_rfl)),
  f128 := Eq.trans Tryz.func140 (congrArg some (by kernel_rfl)),
  f129 := Eq.trans Tryz.func141 (congrArg some (by kernel_rfl)),
  f189 := Eq.trans Tryz.func103 (congrArg some (by kernel_rfl)),
  f215 := Eq.trans Tryz.func166 (congrArg some (by kernel_rfl)),
  f216 := Eq.trans Tryz.func137 (congrArg some (by kernel_rfl)),
  f257 := Eq.trans Tryz.func117 (congrArg some (by kernel_rfl)),
  f294 := Eq.trans Tryz.func131 (congrArg some (by kernel_rfl)),
  f295 := Eq.trans Tryz.func132 (congrArg some (by kernel_rfl)),
  f296 := Eq.trans Tryz.func133 (congrArg some (by kernel_rfl)),
  f297 := Eq.trans Tryz.func134 (congrArg some (by kernel_rfl)),
  f298 := Eq.trans Tryz.func135 (congrArg some (by kernel_rfl)),
  f299 := Eq.trans Tryz.func136 (congrArg some (by kernel_rfl)),
  f300 := Eq.trans Tryz.func138 (congrArg some (by kernel_rfl)),
  f301 := Eq.trans Tryz.func139 (congrArg some (by kernel_rfl)),
  f328 := Eq.trans Tryz.func161 (congrArg some (by kernel_rfl)),
  f329 := Eq.trans Tryz.func162 (congrArg some (by kernel_rfl)),
  f330 := Eq.trans Tryz.func163 (congrArg some (by kernel_rfl)),
  f331 := Eq.trans Tryz.func164 (congrArg some (by kernel_rfl)),
  f332 := Eq.trans Tryz.func165 (congrArg some (by kernel_rfl)),
  f343 := Eq.trans Tryz.func177 (congrArg some (by kernel_rfl)),
  t0 := Tryz.underlying0,
  a0 := Tryz.isAgg0,
  z0 := Tryz.sizeOf0,
  v0 := Tryz.zeroValue0,
  t3 := Tryz.underlying3,
  a3 := Tryz.isAgg3,
  z3 := Tryz.sizeOf3,
  v3 := Tryz.zeroValue3,
  t4 := Tryz.underlying4,
  a4 := Tryz.isAgg4,
  z4 := Tryz.sizeOf4,
  v4 := Tryz.zeroValue4,
  t5 := Tryz.underlying5,
  a5 := Tryz.isAgg5,
  z5 := Tryz.sizeOf5,
  v5 := Tryz.zeroValue5,
  t9 := Tryz.underlying9,
  a9 := Tryz.isAgg9,
  z9 := Tryz.sizeOf9,
  v9 := Tryz.zeroValue9,
  t28 := Tryz.underlying22,
  a28 := Tryz.isAgg22,
  z28 := Tryz.sizeOf22,
  v28 := Tryz.zeroValue22,
  t46 := Tryz.underlying217,
  a46 := Tryz.isAgg217,
  z46 := Tryz.sizeOf217,
  v46 := Tryz.zeroValue217,
  t51 := Tryz.underlying234,
  a51 := Tryz.isAgg234,
  z51 := Tryz.sizeOf234,
  v51 := Tryz.zeroValue234,
  t53 := Tryz.underlying236,
  a53 := Tryz.isAgg236,
  z53 := Tryz.sizeOf236,
  v53 := Tryz.zeroValue236,
  t131 := Tryz.underlying182,
  a131 := Tryz.isAgg182,
  z131 := Tryz.sizeOf182,
  v131 := Tryz.zeroValue182,
  t182 := Tryz.underlying228,
  a182 := Tryz.isAgg228,
  z182 := Tryz.sizeOf228,
  v182 := Tryz.zeroValue228,
  t183 := Tryz.underlying229,
  a183 := Tryz.isAgg229,
  z183 := Tryz.sizeOf229,
  v183 := Tryz.zeroValue229,
  t218 := Tryz.underlying247,
  a218 := Tryz.isAgg247,
  z218 := Tryz.sizeOf247,
  v218 := Tryz.zeroValue247,
  t222 := Tryz.underlying251,
  a222 := Tryz.isAgg251,
  z222 := Tryz.sizeOf251,
  v222 := Tryz.zeroValue251,
  t228 := Tryz.underlying258,
  a228 := Tryz.isAgg258,
  z228 := Tryz.sizeOf258,
  v228 := Tryz.zeroValue258,
  t229 := Tryz.underlying87,
  a229 := Tryz.isAgg87,
  z229 := Tryz.sizeOf87,
  v229 := Tryz.zeroValue87 }
def zqdv : RowF := Q9p 3
theorem zqdw : RowOk Tryz.prog 103 zqdv :=
 Qib zqdu rfl ⟨_, Tryz.func103, by kernel_rfl, by kernel_rfl⟩
noncomputable def zqdx : En := ⟨_, .rows zqdv, zqdw⟩
abbrev zqdy := {β : Type} → zq2 → (Bool → Option β) → Option β
noncomputable def zqdz : List En := [zq57]
abbrev zqe0 (β : Type) := Bool → Option β
abbrev zqe1 (β : Type) := Unit → Option β
abbrev zqe2 (β : Type) := Int → zq2 → Option β
noncomputable def zqe3 : Pc := ⟨19, 0, Q1 26 (Q2 Tryz.f104), ⟨0, [1, 3], [b29y, b27y], [.cells 116 [.data zq3]]⟩, [(.ret, ⟨0, [2], [b30y], []⟩), (.exit 0, ⟨0, [], [], []⟩)]⟩
def zqe4 {β : Type} (rec : zqe2 β) (k1 : zqe0 β) (k2 : zqe1 β) : zqe2 β := fun i_ p_ =>
 cond (decide (i_ < (List.length p_.2.1 : Int)))
 (cond (decide (0 ≤ i_) && decide (i_ < (List.length p_.2.1 : Int)))
 (let e : zq0 := List.getD p_.2.1 (Int.toNat i_) ((0 : Int), (false, ([] : List t0y)));
 zq56 e.1 (0 : Int) (86400 : Int) (fun (rIn : Bool) =>
 cond (!rIn)
 (k1 false)
 (let i_2 : Int := (IntKind.i64.wrap (i_ + (1 : Int)));
 rec i_2 p_)))
 none)
 (k2 ())
def zqe5 (m : Nat) {β : Type} (k1 : zqe0 β) (k2 : zqe1 β) : zqe2 β := lp2 (fun r => zqe4 r k1 k2) none m
theorem zqe6 {β : Type} (i : Nat) (k1 k2) : zqe5 (β := β) (i + 1) k1 k2 = zqe4 (zqe5 i k1 k2) k1 k2 := rfl
def zqe7 {β : Type} := hid (zqe5 (β := β) fuel)
noncomputable def zqe8 : Pb := ⟨26, zqe3, fun _ => zqe7, pl (p := zqe3) zqdz [] (g := fun i _ => zqe5 i) (by kernel_rfl) rfl (by kernel_rfl) (fun _ _ => rfl) fun _ _ _ _ => by kernel_rfl⟩
def zqe9 : zqdy := fun p_ k =>
 zqe7 (fun (t2 : Bool) =>
 k t2) (fun (_ : Unit) =>
 k true) (0 : Int) p_
def zqea : zqdy := hid zqe9
noncomputable def zqeb : En := ⟨104, .spec (sg [(true, [.data zq3])] [] [b30y] [] zqea), pf zqdz [zqe8] [.tmp 2] Tryz.func104 (by kernel_rfl) fun _ _ => by kernel_rfl⟩
abbrev zqec := {β : Type} → zq2 → (Int → Option β) → Option β
def zqed : zqec := fun p_ k =>
 zq56 p_.2.2 (0 : Int) (8 : Int) (fun (rIn : Bool) =>
 cond (!rIn)
 (k (0 : Int))
 (cond (decide ((8 : Int) < (List.length p_.2.1 : Int)))
 (k (0 : Int))
 (let t : Int := (IntKind.i64.wrap ((List.length p_.2.1 : Int) * (IntKind.i64.wrap (p_.2.2 + (1 : Int)))));
 k t)))
def zqee : zqec := hid zqed
noncomputable def zqef : En := ⟨105, .spec (sg [(true, [.data zq3])] [] [b27y] [] zqee), pf [zq57] [] [.tmp 2] Tryz.func105 (by kernel_rfl) fun _ _ => by kernel_rfl⟩
abbrev zqeg := {β : Type} → zqy → (Bool → Option β) → Option β
noncomputable def zqeh : List En := [zqbc]
abbrev zqei (β : Type) := Bool → Option β
abbrev zqej (β : Type) := zqy → Option β
abbrev zqek (β : Type) := Int → Int → Int → zqy → Option β
noncomputable def zqel : Pc := ⟨65, 0, Q1 58 (Q2 Tryz.f106), ⟨0, [1, 3, 4, 5], [b29y, b27y, b27y, b27y], [b38y]⟩, [(.ret, ⟨0, [2], [b30y], []⟩), (.exit 0, ⟨0, [1], [b29y], [b38y]⟩)]⟩
abbrev zqem (β : Type) := Int → Int → Int → zqy → Option β
abbrev zqen (β : Type) := Int → Int → zqy → t4y → Option β
noncomputable def zqeo : Pc := ⟨65, 0, Q1 51 (Qb zqel.c), ⟨0, [1, 3, 5, 6], [b29y, b27y, b27y, b34y], [b38y, .cells 143 [.data (.prod (.int .i64) (.prod (.int .i64) (.slice (.int .i64))))]]⟩, [(.normal, ⟨0, [1, 3, 4, 5], [b29y, b27y, b27y, b27y], [b38y]⟩)]⟩
def zqep {β : Type} (k1 : zqem β) : zqen β := fun k_ i_ p_ x =>
 cond (decide ((0 : Int) ≤ x.1))
 (k1 x.1 x.2.1 i_ p_)
 (k1 k_ x.2.1 i_ p_)
def zqeq {β : Type} := hid (zqep (β := β))
noncomputable def zqer : Pb := ⟨51, zqeo, fun _ => zqeq, pe (p := zqeo) zqeh [] 51 (g := fun _ => zqep) (by kernel_rfl) fun _ _ => by kernel_rfl⟩
def zqes {β : Type} (rec : zqek β) (k1 : zqei β) (k2 : zqej β) : zqek β := fun k_ at_ i_ p_ =>
 cond (decide (i_ < (List.length p_.2.2.2.2.2.2.2.2.2.2.2.1 : Int)))
 (cond (decide (0 ≤ i_) && decide (i_ < (List.length p_.2.2.2.2.2.2.2.2.2.2.2.1 : Int)))
 (let e : t4y := List.getD p_.2.2.2.2.2.2.2.2.2.2.2.1 (Int.toNat i_) ((0 : Int), ((0 : Int), ([] : List Int)));
 cond (decide (e.2.1 < at_))
 (k1 false)
 (cond (decide (e.1 < (-1 : Int)))
 (k1 false)
 (cond (decide ((0 : Int) ≤ e.1))
 (cond (decide (e.1 ≤ k_))
 (k1 false)
 (cond (decide (p_.2.2.2.1 ≤ e.1))
 (k1 false)
 (zqbb e.2.2 (32 : Int) (fun (rSet : Bool) =>
 cond (!rSet)
 (k1 false)
 (zqeq (fun (k_2 : Int) (at_2 : Int) (i_2 : Int) (p_2 : zqy) =>
 let i_3 : Int := (IntKind.i64.wrap (i_2 + (1 : Int)));
 rec k_2 at_2 i_3 p_2) k_ i_ p_ e)))))
 (zqbb e.2.2 (32 : Int) (fun (rSet : Bool) =>
 cond (!rSet)
 (k1 false)
 (zqeq (fun (k_2 : Int) (at_2 : Int) (i_2 : Int) (p_2 : zqy) =>
 let i_3 : Int := (IntKind.i64.wrap (i_2 + (1 : Int)));
 rec k_2 at_2 i_3 p_2) k_ i_ p_ e))))))
 none)
 (k2 p_)
def zqet (m : Nat) {β : Type} (k1 : zqei β) (k2 : zqej β) : zqek β := lp4 (fun r => zqes r k1 k2) none m
theorem zqeu {β : Type} (i : Nat) (k1 k2) : zqet (β := β) (i + 1) k1 k2 = zqes (zqet i k1 k2) k1 k2 := rfl
def zqev {β : Type} := hid (zqet (β := β) fuel)
noncomputable def zqew : Pb := ⟨58, zqel, fun _ => zqev, pl (p := zqel) zqeh [zqer] (g := fun i _ => zqet i) (by kernel_rfl) rfl (by kernel_rfl) (fun _ _ => rfl) fun _ _ _ _ => by kernel_rfl⟩
def zqex : zqeg := fun p_ k =>
 zqev (fun (t2 : Bool) =>
 k t2) (fun (p_2 : zqy) =>
 let t : Bool := (decide ((List.length p_2.2.2.2.2.2.2.2.2.2.2.2.1 : Int) ≤ (200 : Int)));
 k t) (-1 : Int) p_.2.2.1 (0 : Int) p_
def zqey : zqeg := hid zqex
noncomputable def zqez : En := ⟨106, .spec (sg [b58y] [] [b30y] [] zqey), pf zqeh [zqew] [.tmp 2] Tryz.func106 (by kernel_rfl) fun _ _ => by kernel_rfl⟩
abbrev zqf0 := {β : Type} → zq2 → Int → (Int → Int → Bool → Option β) → Option β
def zqf1 : zqf0 := fun p_ k_ k =>
 cond (decide (k_ < (0 : Int)))
 (k (0 : Int) (0 : Int) false)
 (zqee p_ (fun (rCount : Int) =>
 cond (decide (rCount ≤ k_))
 (k (0 : Int) (0 : Int) false)
 (cond (!decide ((List.length p_.2.1 : Int) = 0))
 (cond (!decide ((List.length p_.2.1 : Int) = 0))
 (let step : Int := (Int.tmod k_ (List.length p_.2.1 : Int));
 let round : Int := (IntKind.i64.wrap (Int.tdiv k_ (List.length p_.2.1 : Int)));
 k step round true)
 none)
 none)))
def zqf2 : zqf0 := hid zqf1
noncomputable def zqf3 : En := ⟨107, .spec (sg [(true, [.data zq3]), b27y] [] [b27y, b27y, b30y] [] zqf2), pf [zqef] [] [.tmp 4, .tmp 5, .tmp 6] Tryz.func107 (by kernel_rfl) fun _ _ => by kernel_rfl⟩
abbrev zqf4 := {β : Type} → Int → (Bool → Option β) → Option β
def zqf5 : zqf4 := fun n k =>
 zq97 n (0 : Int) (31 : Int) (fun (rin : Bool) =>
 k rin)
def zqf6 : zqf4 := hid zqf5
noncomputable def zqf7 : En := ⟨110, .spec (sg [b27y] [] [b30y] [] zqf6), pf [zq98] [] [.tmp 2] Tryz.func110 (by kernel_rfl) fun _ _ => by kernel_rfl⟩
abbrev zqf8 := {β : Type} → Int → Int → Int → (Bool → Option β) → Option β
def zqf9 : zqf8 := fun n low high k =>
 cond (decide (low ≤ n))
 (k (decide (n ≤ high)))
 (k false)
def zqfa : zqf8 := hid zqf9
noncomputable def zqfb : En := ⟨113, .spec (sg [b27y, b27y, b27y] [] [b30y] [] zqfa), pf [] [] [.tmp 6] Tryz.func113 (by kernel_rfl) fun _ _ => by kernel_rfl⟩
abbrev zqfc := {β : Type} → Int → t9y → (t14y → Option β) → Option β
abbrev zqfd (β : Type) := t9y → t14y → Option β
abbrev zqfe (β : Type) := Int → t9y → Int → Int → t14y → Option β
noncomputable def zqff : Pc := ⟨66, 0, Q1 58 (Q2 Tryz.f126), ⟨0, [0, 1, 5, 13, 14], [b27y, b33y, (false, [.math 0]), b27y, b27y], [.mat 22 3 (.int .i64)]⟩, [(.exit 0, ⟨0, [1, 5], [b33y, (false, [.math 0])], [.mat 22 3 (.int .i64)]⟩)]⟩
abbrev zqfg (β : Type) := t14y → Option β
abbrev zqfh (β : Type) := t9y → Int → Int → t14y → Option β
noncomputable def zqfi : Pc := ⟨66, 0, Q1 122 (Q2 Tryz.f126), ⟨0, [5, 38, 39, 40], [(false, [.math 0]), b33y, b27y, b27y], [.mat 22 3 (.int .i64)]⟩, [(.exit 4, ⟨0, [5], [(false, [.math 0])], [.mat 22 3 (.int .i64)]⟩)]⟩
abbrev zqfj (β : Type) := Int → t9y → Int → Int → t14y → Option β
abbrev zqfk (β : Type) := Int → t9y → Int → Int → Int → Int → Int → t14y → Option β
noncomputable def zqfl : Pc := ⟨66, 0, Q1 462 (Qb zqff.c), ⟨0, [0, 1, 5, 6, 13, 14, 26, 27], [b27y, b33y, (false, [.math 0]), b27y, b27y, b27y, b27y, b27y], [.mat 22 3 (.int .i64)]⟩, [(.exit 2, ⟨0, [0, 1, 5, 13, 14], [b27y, b33y, (false, [.math 0]), b27y, b27y], [.mat 22 3 (.int .i64)]⟩)]⟩
def zqfm {β : Type} (rec : zqfk β) (k1 : zqfj β) : zqfk β := fun n l i_ t13 t14 t26 t27 out =>
 cond (decide (t27 < t26))
 (cond (decide (0 ≤ i_) && decide (i_ < (List.length out : Int)))
 (cond (decide (0 ≤ t27) && decide (t27 < (List.length (List.getD out (Int.toNat i_) []) : Int)))
 (let m_ : List t3y := (List.set out (Int.toNat i_) (List.set (List.getD out (Int.toNat i_) []) (Int.toNat t27) (1099511627776 : Int)));
 rec n l i_ t13 t14 t26 (IntKind.i64.wrap (t27 + (1 : Int))) m_)
 none)
 none)
 (k1 n l t13 t14 out)
def zqfn (m : Nat) {β : Type} (k1 : zqfj β) : zqfk β := lp8 (fun r => zqfm r k1) none m
theorem zqfo {β : Type} (i : Nat) (k1) : zqfn (β := β) (i + 1) k1 = zqfm (zqfn i k1) k1 := rfl
def zqfp {β : Type} := hid (zqfn (β := β) fuel)
noncomputable def zqfq : Pb := ⟨462, zqfl, fun _ => zqfp, Q1n mixed (X := ⟨look tab, gam ([] : List En), true, false, false, false, []⟩) (p := zqfl) Qp [] rfl [] (g := fun i _ => zqfn i) (by kernel_rfl) rfl (by kernel_rfl) (fun _ _ => rfl) fun _ _ _ _ => by kernel_rfl⟩
def zqfr {β : Type} (rec : zqfe β) (k1 : zqfd β) : zqfe β := fun n l t13 t14 out =>
 cond (decide (t14 < t13))
 (cond (decide (0 ≤ n) && (decide (n = n) && (decide (Int.toNat n * 8 ≤ Q5) && decide (n ≤ 9223372036854775807))))
 (let l2 : List Int := (List.replicate (Int.toNat n) (0 : Int));
 cond (decide (0 ≤ t14) && decide (t14 < (List.length out : Int)))
 (let m_ : List t3y := (List.set out (Int.toNat t14) l2);
 cond (decide (0 ≤ t14) && decide (t14 < (List.length m_ : Int)))
 (zqfp (fun (n2 : Int) (l3 : List t2y) (t132 : Int) (t142 : Int) (out2 : List t3y) =>
 rec n2 l3 t132 (IntKind.i64.wrap (t142 + (1 : Int))) out2) n l t14 t13 t14 (List.length (List.getD m_ (Int.toNat t14) []) : Int) (0 : Int) m_)
 none)
 none)
 none)
 (k1 l out)
def zqfs (m : Nat) {β : Type} (k1 : zqfd β) : zqfe β := lp5 (fun r => zqfr r k1) none m
theorem zqft {β : Type} (i : Nat) (k1) : zqfs (β := β) (i + 1) k1 = zqfr (zqfs i k1) k1 := rfl
def zqfu {β : Type} := hid (zqfs (β := β) fuel)
noncomputable def zqfv : Pb := ⟨58, zqff, fun _ => zqfu, Q1n mixed (X := ⟨look tab, gam ([] : List En), true, false, false, false, []⟩) (p := zqff) Qp [] rfl [zqfq] (g := fun i _ => zqfs i) (by kernel_rfl) rfl (by kernel_rfl) (fun _ _ => rfl) fun _ _ _ _ => by kernel_rfl⟩
def zqfw {β : Type} (rec : zqfh β) (k1 : zqfg β) : zqfh β := fun t38 t39 t40 out =>
 cond (decide (t40 < t39))
 (cond (decide (0 ≤ t40) && decide (t40 < (List.length t38 : Int)))
 (let e : t2y := List.getD t38 (Int.toNat t40) ((0 : Int), ((0 : Int), (0 : Int)));
 cond (decide (0 ≤ e.1) && decide (e.1 < (List.length out : Int)))
 (cond (decide (0 ≤ e.1) && decide (e.1 < (List.length out : Int)))
 (cond (decide (0 ≤ e.2.1) && decide (e.2.1 < (List.length (List.getD out (Int.toNat e.1) []) : Int)))
 (cond (decide (0 ≤ e.2.1) && decide (e.2.1 < (List.length (List.getD out (Int.toNat e.1) []) : Int)))
 (let m_ : List t3y := (List.set out (Int.toNat e.1) (List.set (List.getD out (Int.toNat e.1) []) (Int.toNat e.2.1) (if e.2.2 < (List.getD (List.getD out (Int.toNat e.1) []) (Int.toNat e.2.1) (0 : Int)) then e.2.2 else (List.getD (List.getD out (Int.toNat e.1) []) (Int.toNat e.2.1) (0 : Int)))));
 rec t38 t39 (IntKind.i64.wrap (t40 + (1 : Int))) m_)
 none)
 none)
 none)
 none)
 none)
 (k1 out)
def zqfx (m : Nat) {β : Type} (k1 : zqfg β) : zqfh β := lp4 (fun r => zqfw r k1) none m
theorem zqfy {β : Type} (i : Nat) (k1) : zqfx (β := β) (i + 1) k1 = zqfw (zqfx i k1) k1 := rfl
def zqfz {β : Type} := hid (zqfx (β := β) fuel)
noncomputable def zqg0 : Pb := ⟨122, zqfi, fun _ => zqfz, Q1n mixed (X := ⟨look tab, gam ([] : List En), true, false, false, false, []⟩) (p := zqfi) Qp [] rfl [] (g := fun i _ => zqfx i) (by kernel_rfl) rfl (by kernel_rfl) (fun _ _ => rfl) fun _ _ _ _ => by kernel_rfl⟩
def zqg1 : zqfc := fun n l k =>
 cond (decide (0 ≤ n) && (decide (n = n) && (decide (Int.toNat n * 24 ≤ Q5) && decide (n ≤ 9223372036854775807))))
 (let m_ : List t3y := (List.replicate (Int.toNat n) ([] : List Int));
 zqfu (fun (l2 : List t2y) (out : List t3y) =>
 zqfz (fun (out2 : List t3y) =>
 k out2) l2 (List.length l2 : Int) (0 : Int) out) n l (List.length m_ : Int) (0 : Int) m_)
 none
def zqg2 : zqfc := hid zqg1
noncomputable def zqg3 : En := ⟨126, .spec (sg [b27y, b33y] [] [(false, [.math 0])] [.mat 22 3 (.int .i64)] zqg2), Q7j mixed (X := ⟨look tab, gam ([] : List En), true, false, false, false, []⟩) Qp [] rfl [zqfv, zqg0] [.tmp 4] Tryz.func126 (by kernel_rfl) fun _ _ => by kernel_rfl⟩
abbrev zqg4 := {β : Type} → zqo → (Bool → Option β) → Option β
noncomputable def zqg5 : List En := [zq57]
abbrev zqg6 (β : Type) := Bool → Option β
abbrev zqg7 (β : Type) := zqo → Option β
abbrev zqg8 (β : Type) := Int → zqo → Option β
noncomputable def zqg9 : Pc := ⟨155, 0, Q1 58 (Q2 Tryz.f127), ⟨0, [1, 3], [b29y, b27y], [b39y]⟩, [(.ret, ⟨0, [2], [b30y], []⟩), (.exit 0, ⟨0, [1], [b29y], [b39y]⟩)]⟩
abbrev zqga (β : Type) := Bool → Option β
abbrev zqgb (β : Type) := zqo → Option β
abbrev zqgc (β : Type) := Int → zqo → Option β
noncomputable def zqgd : Pc := ⟨155, 0, Q1 122 (Q2 Tryz.f127), ⟨0, [1, 4], [b29y, b27y], [b39y]⟩, [(.ret, ⟨0, [2], [b30y], []⟩), (.exit 2, ⟨0, [1], [b29y], [b39y]⟩)]⟩
abbrev zqge (β : Type) := Bool → Option β
abbrev zqgf (β : Type) := zqo → Option β
abbrev zqgg (β : Type) := Int → zqo → Option β
noncomputable def zqgh : Pc := ⟨155, 0, Q1 250 (Q2 Tryz.f127), ⟨0, [1, 6], [b29y, b27y], [b39y]⟩, [(.ret, ⟨0, [2], [b30y], []⟩), (.exit 4, ⟨0, [1], [b29y], [b39y]⟩)]⟩
abbrev zqgi (β : Type) := Bool → Option β
abbrev zqgj (β : Type) := Unit → Option β
abbrev zqgk (β : Type) := Int → zqo → Option β
noncomputable def zqgl : Pc := ⟨155, 0, Q1 506 (Q2 Tryz.f127), ⟨0, [1, 8], [b29y, b27y], [b39y]⟩, [(.ret, ⟨0, [2], [b30y], []⟩), (.exit 6, ⟨0, [], [], []⟩)]⟩
def zqgm {β : Type} (rec : zqg8 β) (k1 : zqg6 β) (k2 : zqg7 β) : zqg8 β := fun i_ r_ =>
 cond (decide (i_ < (List.length r_.1 : Int)))
 (cond (decide (0 ≤ i_) && decide (i_ < (List.length r_.1 : Int)))
 (let e : t5y := List.getD r_.1 (Int.toNat i_) (([] : List UInt8), (0 : Int));
 zq56 e.2 (0 : Int) (500000 : Int) (fun (rIn : Bool) =>
 cond (!rIn)
 (k1 false)
 (let i_2 : Int := (IntKind.i64.wrap (i_ + (1 : Int)));
 rec i_2 r_)))
 none)
 (k2 r_)
def zqgn (m : Nat) {β : Type} (k1 : zqg6 β) (k2 : zqg7 β) : zqg8 β := lp2 (fun r => zqgm r k1 k2) none m
theorem zqgo {β : Type} (i : Nat) (k1 k2) : zqgn (β := β) (i + 1) k1 k2 = zqgm (zqgn i k1 k2) k1 k2 := rfl
def zqgp {β : Type} := hid (zqgn (β := β) fuel)
noncomputable def zqgq : Pb := ⟨58, zqg9, fun _ => zqgp, pl (p := zqg9) zqg5 [] (g := fun i _ => zqgn i) (by kernel_rfl) rfl (by kernel_rfl) (fun _ _ => rfl) fun _ _ _ _ => by kernel_rfl⟩
def zqgr {β : Type} (rec : zqgc β) (k1 : zqga β) (k2 : zqgb β) : zqgc β := fun i_ r_ =>
 cond (decide (i_ < (List.length r_.2.1 : Int)))
 (cond (decide (0 ≤ i_) && decide (i_ < (List.length r_.2.1 : Int)))
 (let e : zqc := List.getD r_.2.1 (Int.toNat i_) ((0 : Int), ((0 : Int), ((0 : Int), (0 : Int))));
 zq56 e.1 (0 : Int) (IntKind.i64.wrap ((List.length r_.1 : Int) - (1 : Int))) (fun (rIn : Bool) =>
 cond (!rIn)
 (k1 false)
 (zq56 e.2.1 (0 : Int) (8589934592 : Int) (fun (rIn2 : Bool) =>
 cond (!rIn2)
 (k1 false)
 (zq56 e.2.2.1 (0 : Int) e.2.2.2 (fun (rIn3 : Bool) =>
 cond (!rIn3)
 (k1 false)
 (cond (decide ((8589934592 : Int) < e.2.2.2))
 (k1 false)
 (let i_2 : Int := (IntKind.i64.wrap (i_ + (1 : Int)));
 rec i_2 r_))))))))
 none)
 (k2 r_)
def zqgs (m : Nat) {β : Type} (k1 : zqga β) (k2 : zqgb β) : zqgc β := lp2 (fun r => zqgr r k1 k2) none m
theorem zqgt {β : Type} (i : Nat) (k1 k2) : zqgs (β := β) (i + 1) k1 k2 = zqgr (zqgs i k1 k2) k1 k2 := rfl
def zqgu {β : Type} := hid (zqgs (β := β) fuel)
noncomputable def zqgv : Pb := ⟨122, zqgd, fun _ => zqgu, pl (p := zqgd) zqg5 [] (g := fun i _ => zqgs i) (by kernel_rfl) rfl (by kernel_rfl) (fun _ _ => rfl) fun _ _ _ _ => by kernel_rfl⟩
def zqgw {β : Type} (rec : zqgg β) (k1 : zqge β) (k2 : zqgf β) : zqgg β := fun i_ r_ =>
 cond (decide (i_ < (List.length r_.2.2.1 : Int)))
 (cond (decide (0 ≤ i_) && decide (i_ < (List.length r_.2.2.1 : Int)))
 (let e : zq8 := List.getD r_.2.2.1 (Int.toNat i_) ((0 : Int), ((0 : Int), ([] : List UInt8)));
 zq56 e.1 (0 : Int) (IntKind.i64.wrap ((List.length r_.1 : Int) - (1 : Int))) (fun (rIn : Bool) =>
 cond (!rIn)
 (k1 false)
 (zq56 e.2.1 (0 : Int) (8589934592 : Int) (fun (rIn2 : Bool) =>
 cond (!rIn2)
 (k1 false)
 (let i_2 : Int := (IntKind.i64.wrap (i_ + (1 : Int)));
 rec i_2 r_)))))
 none)
 (k2 r_)
def zqgx (m : Nat) {β : Type} (k1 : zqge β) (k2 : zqgf β) : zqgg β := lp2 (fun r => zqgw r k1 k2) none m
theorem zqgy {β : Type} (i : Nat) (k1 k2) : zqgx (β := β) (i + 1) k1 k2 = zqgw (zqgx i k1 k2) k1 k2 := rfl
def zqgz {β : Type} := hid (zqgx (β := β) fuel)
noncomputable def zqh0 : Pb := ⟨250, zqgh, fun _ => zqgz, pl (p := zqgh) zqg5 [] (g := fun i _ => zqgx i) (by kernel_rfl) rfl (by kernel_rfl) (fun _ _ => rfl) fun _ _ _ _ => by kernel_rfl⟩
def zqh1 {β : Type} (rec : zqgk β) (k1 : zqgi β) (k2 : zqgj β) : zqgk β := fun i_ r_ =>
 cond (decide (i_ < (List.length r_.2.2.2 : Int)))
 (cond (decide (0 ≤ i_) && decide (i_ < (List.length r_.2.2.2 : Int)))
 (let e : t2y := List.getD r_.2.2.2 (Int.toNat i_) ((0 : Int), ((0 : Int), (0 : Int)));
 zq56 e.1 (0 : Int) (IntKind.i64.wrap ((List.length r_.2.2.1 : Int) - (1 : Int))) (fun (rIn : Bool) =>
 cond (!rIn)
 (k1 false)
 (zq56 e.2.1 (0 : Int) (IntKind.i64.wrap ((List.length r_.2.2.1 : Int) - (1 : Int))) (fun (rIn2 : Bool) =>
 cond (!rIn2)
 (k1 false)
 (cond (decide (e.1 = e.2.1))
 (k1 false)
 (zq56 e.2.2 (0 : Int) (8589934592 : Int) (fun (rIn3 : Bool) =>
 cond (!rIn3)
 (k1 false)
 (let i_2 : Int := (IntKind.i64.wrap (i_ + (1 : Int)));
 rec i_2 r_))))))))
 none)
 (k2 ())
def zqh2 (m : Nat) {β : Type} (k1 : zqgi β) (k2 : zqgj β) : zqgk β := lp2 (fun r => zqh1 r k1 k2) none m
theorem zqh3 {β : Type} (i : Nat) (k1 k2) : zqh2 (β := β) (i + 1) k1 k2 = zqh1 (zqh2 i k1 k2) k1 k2 := rfl
def zqh4 {β : Type} := hid (zqh2 (β := β) fuel)
noncomputable def zqh5 : Pb := ⟨506, zqgl, fun _ => zqh4, pl (p := zqgl) zqg5 [] (g := fun i _ => zqh2 i) (by kernel_rfl) rfl (by kernel_rfl) (fun _ _ => rfl) fun _ _ _ _ => by kernel_rfl⟩
def zqh6 : zqg4 := fun r_ k =>
 cond (decide ((8 : Int) < (List.length r_.1 : Int)))
 (k false)
 (cond (decide ((64 : Int) < (List.length r_.2.1 : Int)))
 (k false)
 (cond (decide ((40 : Int) < (List.length r_.2.2.1 : Int)))
 (k false)
 (cond (decide ((64 : Int) < (List.length r_.2.2.2 : Int)))
 (k false)
 (zqgp (fun (t2 : Bool) =>
 k t2) (fun (r_2 : zqo) =>
 zqgu (fun (t2 : Bool) =>
 k t2) (fun (r_3 : zqo) =>
 zqgz (fun (t2 : Bool) =>
 k t2) (fun (r_4 : zqo) =>
 zqh4 (fun (t2 : Bool) =>
 k t2) (fun (_ : Unit) =>
 k true) (0 : Int) r_4) (0 : Int) r_3) (0 : Int) r_2) (0 : Int) r_))))
def zqh7 : zqg4 := hid zqh6
noncomputable def zqh8 : En := ⟨127, .spec (sg [b49y] [] [b30y] [] zqh7), pf zqg5 [zqgq, zqgv, zqh0, zqh5] [.tmp 2] Tryz.func127 (by kernel_rfl) fun _ _ => by kernel_rfl⟩
abbrev zqh9 := {β : Type} → Int → Int → (Int → Int → Option β) → Option β
def zqha : zqh9 := fun drift d k =>
 zq56 drift (0 : Int) (500000 : Int) (fun (rIn : Bool) =>
 cond (!rIn)
 (k (0 : Int) (0 : Int))
 (zq56 d (0 : Int) (8589934592 : Int) (fun (rIn2 : Bool) =>
 cond (!rIn2)
 (k (0 : Int) (0 : Int))
 (cond (!decide ((IntKind.i64.wrap ((1000000 : Int) + drift)) = 0))
 (cond (!decide ((IntKind.i64.wrap ((1000000 : Int) - drift)) = 0))
 (let low : Int := (IntKind.i64.wrap (Int.tdiv (IntKind.i64.wrap (d * (1000000 : Int))) (IntKind.i64.wrap ((1000000 : Int) + drift))));
 let high : Int := (IntKind.i64.wrap (Int.tdiv (IntKind.i64.wrap ((IntKind.i64.wrap ((IntKind.i64.wrap ((IntKind.i64.wrap (d * (1000000 : Int))) + (1000000 : Int))) - drift)) - (1 : Int))) (IntKind.i64.wrap ((1000000 : Int) - drift))));
 k low high)
 none)
 none))))
def zqhb : zqh9 := hid zqha
noncomputable def zqhc : En := ⟨129, .spec (sg [b27y, b27y] [] [b27y, b27y] [] zqhb), pf [zq57] [] [.tmp 4, .tmp 5] Tryz.func129 (by kernel_rfl) fun _ _ => by kernel_rfl⟩
abbrev zqhd := {β : Type} → Int → t9y → (Bool → Option β) → Option β
noncomputable def zqhe : List En := [zq57]
abbrev zqhf (β : Type) := Bool → Option β
abbrev zqhg (β : Type) := Unit → Option β
abbrev zqhh (β : Type) := Int → t9y → Int → Option β
noncomputable def zqhi : Pc := ⟨49, 0, Q1 58 (Q2 Tryz.f130), ⟨0, [0, 1, 5], [b27y, b33y, b27y], []⟩, [(.ret, ⟨0, [4], [b30y], []⟩), (.exit 0, ⟨0, [], [], []⟩)]⟩
def zqhj {β : Type} (rec : zqhh β) (k1 : zqhf β) (k2 : zqhg β) : zqhh β := fun n l i_ =>
 cond (decide (i_ < (List.length l : Int)))
 (cond (decide (0 ≤ i_) && decide (i_ < (List.length l : Int)))
 (let e : t2y := List.getD l (Int.toNat i_) ((0 : Int), ((0 : Int), (0 : Int)));
 zq56 e.1 (0 : Int) (IntKind.i64.wrap (n - (1 : Int))) (fun (rIn : Bool) =>
 cond (!rIn)
 (k1 false)
 (cond (decide (0 ≤ i_) && decide (i_ < (List.length l : Int)))
 (let e2 : t2y := List.getD l (Int.toNat i_) ((0 : Int), ((0 : Int), (0 : Int)));
 zq56 e2.2.1 (0 : Int) (IntKind.i64.wrap (n - (1 : Int))) (fun (rIn2 : Bool) =>
 cond (!rIn2)
 (k1 false)
 (cond (decide (0 ≤ i_) && decide (i_ < (List.length l : Int)))
 (let e3 : t2y := List.getD l (Int.toNat i_) ((0 : Int), ((0 : Int), (0 : Int)));
 zq56 e3.2.2 (-17179869184 : Int) (17179869184 : Int) (fun (rIn3 : Bool) =>
 cond (!rIn3)
 (k1 false)
 (let i_2 : Int := (IntKind.i64.wrap (i_ + (1 : Int)));
 rec n l i_2)))
 none)))
 none)))
 none)
 (k2 ())
def zqhk (m : Nat) {β : Type} (k1 : zqhf β) (k2 : zqhg β) : zqhh β := lp3 (fun r => zqhj r k1 k2) none m
theorem zqhl {β : Type} (i : Nat) (k1 k2) : zqhk (β := β) (i + 1) k1 k2 = zqhj (zqhk i k1 k2) k1 k2 := rfl
def zqhm {β : Type} := hid (zqhk (β := β) fuel)
noncomputable def zqhn : Pb := ⟨58, zqhi, fun _ => zqhm, pl (p := zqhi) zqhe [] (g := fun i _ => zqhk i) (by kernel_rfl) rfl (by kernel_rfl) (fun _ _ => rfl) fun _ _ _ _ => by kernel_rfl⟩
def zqho : zqhd := fun n l k =>
 zq56 n (1 : Int) (41 : Int) (fun (rIn : Bool) =>
 cond (!rIn)
 (k false)
 (cond (decide ((4000 : Int) < (List.length l : Int)))
 (k false)
 (zqhm (fun (t4 : Bool) =>
 k t4) (fun (_ : Unit) =>
 k true) n l (0 : Int))))
def zqhp : zqhd := hid zqho
noncomputable def zqhq : En := ⟨130, .spec (sg [b27y, b33y] [] [b30y] [] zqhp), pf zqhe [zqhn] [.tmp 4] Tryz.func130 (by kernel_rfl) fun _ _ => by kernel_rfl⟩
abbrev zqhr := {β : Type} → Int → Int → (Bool → Option β) → Option β
def zqhs : zqhr := fun from_ to_ k =>
 cond (decide ((0 : Int) ≤ from_))
 (cond (decide (from_ ≤ (8589934592 : Int)))
 (cond (decide (from_ ≤ to_))
 (cond (decide (to_ ≤ (8589934592 : Int)))
 (let t : Bool := (decide ((IntKind.i64.wrap (to_ - from_)) ≤ (34560000 : Int)));
 k t)
 (k false))
 (k false))
 (k false))
 (k false)
def zqht : zqhr := hid zqhs
noncomputable def zqhu : En := ⟨144, .spec (sg [b27y, b27y] [] [b30y] [] zqht), pf [] [] [.tmp 4] Tryz.func144 (by kernel_rfl) fun _ _ => by kernel_rfl⟩
abbrev zqhv := {β : Type} → t10y → (Int → Option β) → Option β
abbrev zqhw (β : Type) := Int → Option β
abbrev zqhx (β : Type) := Unit → Option β
abbrev zqhy (β : Type) := t10y → Int → Option β
noncomputable def zqhz : Pc := ⟨56, 0, Q1 58 (Q2 Tryz.f146), ⟨0, [0, 3], [b31y, b27y], []⟩, [(.ret, ⟨0, [2], [b27y], []⟩), (.exit 0, ⟨0, [], [], []⟩)]⟩
def zqi0 {β : Type} (rec : zqhy β) (k1 : zqhw β) (k2 : zqhx β) : zqhy β := fun l i_ =>
 cond (decide (i_ < (List.length l : Int)))
 (cond (decide (0 ≤ i_) && decide (i_ < (List.length l : Int)))
 (let e : t0y := List.getD l (Int.toNat i_) ((0 : Int), (0 : Int));
 cond (decide (e.1 < (0 : Int)))
 (k1 (1 : Int))
 (cond (decide (0 ≤ i_) && decide (i_ < (List.length l : Int)))
 (let e2 : t0y := List.getD l (Int.toNat i_) ((0 : Int), (0 : Int));
 cond (decide (0 ≤ i_) && decide (i_ < (List.length l : Int)))
 (let e3 : t0y := List.getD l (Int.toNat i_) ((0 : Int), (0 : Int));
 cond (decide (e3.2 ≤ e2.1))
 (k1 (1 : Int))
 (cond (decide (0 ≤ i_) && decide (i_ < (List.length l : Int)))
 (let e4 : t0y := List.getD l (Int.toNat i_) ((0 : Int), (0 : Int));
 cond (decide ((604800 : Int) < e4.2))
 (k1 (1 : Int))
 (cond (decide ((0 : Int) < i_))
 (cond (decide (0 ≤ i_) && decide (i_ < (List.length l : Int)))
 (let e5 : t0y := List.getD l (Int.toNat i_) ((0 : Int), (0 : Int));
 cond (decide (0 ≤ (IntKind.i64.wrap (i_ - (1 : Int)))) && decide ((IntKind.i64.wrap (i_ - (1 : Int))) < (List.length l : Int)))
 (let e6 : t0y := List.getD l (Int.toNat (IntKind.i64.wrap (i_ - (1 : Int)))) ((0 : Int), (0 : Int));
 cond (decide (e5.1 < e6.2))
 (k1 (6 : Int))
 (let i_2 : Int := (IntKind.i64.wrap (i_ + (1 : Int)));
 rec l i_2))
 none)
 none)
 (let i_2 : Int := (IntKind.i64.wrap (i_ + (1 : Int)));
 rec l i_2)))
 none))
 none)
 none))
 none)
 (k2 ())
def zqi1 (m : Nat) {β : Type} (k1 : zqhw β) (k2 : zqhx β) : zqhy β := lp2 (fun r => zqi0 r k1 k2) none m
theorem zqi2 {β : Type} (i : Nat) (k1 k2) : zqi1 (β := β) (i + 1) k1 k2 = zqi0 (zqi1 i k1 k2) k1 k2 := rfl
def zqi3 {β : Type} := hid (zqi1 (β := β) fuel)
noncomputable def zqi4 : Pb := ⟨58, zqhz, fun _ => zqi3, pl (p := zqhz) [] [] (g := fun i _ => zqi1 i) (by kernel_rfl) rfl (by kernel_rfl) (fun _ _ => rfl) fun _ _ _ _ => by kernel_rfl⟩
def zqi5 : zqhv := fun l k =>
 cond (decide ((14 : Int) < (List.length l : Int)))
 (k (5 : Int))
 (zqi3 (fun (t2 : Int) =>
 k t2) (fun (_ : Unit) =>
 k (0 : Int)) l (0 : Int))
def zqi6 : zqhv := hid zqi5
noncomputable def zqi7 : En := ⟨146, .spec (sg [b31y] [] [b27y] [] zqi6), pf [] [zqi4] [.tmp 2] Tryz.func146 (by kernel_rfl) fun _ _ => by kernel_rfl⟩
abbrev zqi8 := {β : Type} → t10y → Int → (Bool → Option β) → Option β
abbrev zqi9 (β : Type) := Bool → Option β
abbrev zqia (β : Type) := Unit → Option β
abbrev zqib (β : Type) := t10y → Int → Int → Option β
noncomputable def zqic : Pc := ⟨28, 0, Q1 26 (Q2 Tryz.f147), ⟨0, [0, 1, 5], [b31y, b27y, b27y], []⟩, [(.ret, ⟨0, [4], [b30y], []⟩), (.exit 0, ⟨0, [], [], []⟩)]⟩
def zqid {β : Type} (rec : zqib β) (k1 : zqi9 β) (k2 : zqia β) : zqib β := fun l n i_ =>
 cond (decide (i_ < (List.length l : Int)))
 (cond (decide (0 ≤ i_) && decide (i_ < (List.length l : Int)))
 (let e : t0y := List.getD l (Int.toNat i_) ((0 : Int), (0 : Int));
 cond (decide (e.1 ≤ n))
 (cond (decide (0 ≤ i_) && decide (i_ < (List.length l : Int)))
 (let e2 : t0y := List.getD l (Int.toNat i_) ((0 : Int), (0 : Int));
 cond (decide (n < e2.2))
 (k1 true)
 (let i_2 : Int := (IntKind.i64.wrap (i_ + (1 : Int)));
 rec l n i_2))
 none)
 (let i_2 : Int := (IntKind.i64.wrap (i_ + (1 : Int)));
 rec l n i_2))
 none)
 (k2 ())
def zqie (m : Nat) {β : Type} (k1 : zqi9 β) (k2 : zqia β) : zqib β := lp3 (fun r => zqid r k1 k2) none m
theorem zqif {β : Type} (i : Nat) (k1 k2) : zqie (β := β) (i + 1) k1 k2 = zqid (zqie i k1 k2) k1 k2 := rfl
def zqig {β : Type} := hid (zqie (β := β) fuel)
noncomputable def zqih : Pb := ⟨26, zqic, fun _ => zqig, pl (p := zqic) [] [] (g := fun i _ => zqie i) (by kernel_rfl) rfl (by kernel_rfl) (fun _ _ => rfl) fun _ _ _ _ => by kernel_rfl⟩
def zqii : zqi8 := fun l n k =>
 zqig (fun (t4 : Bool) =>
 k t4) (fun (_ : Unit) =>
 k false) l n (0 : Int)
def zqij : zqi8 := hid zqii
noncomputable def zqik : En := ⟨147, .spec (sg [b31y, b27y] [] [b30y] [] zqij), pf [] [zqih] [.tmp 4] Tryz.func147 (by kernel_rfl) fun _ _ => by kernel_rfl⟩
abbrev zqil := {β : Type} → Int → Int → Int → (Bool → Option β) → Option β
def zqim : zqil := fun n low high k =>
 cond (decide (low ≤ n))
 (k (decide (n ≤ high)))
 (k false)
def zqin : zqil := hid zqim
noncomputable def zqio : En := ⟨148, .spec (sg [b27y, b27y, b27y] [] [b30y] [] zqin), pf [] [] [.tmp 6] Tryz.func148 (by kernel_rfl) fun _ _ => by kernel_rfl⟩
abbrev zqip := {β : Type} → Int → (Bool → Option β) → Option β
def zqiq : zqip := fun n k =>
 zqin n (0 : Int) (8589934592 : Int) (fun (rin : Bool) =>
 k rin)
def zqir : zqip := hid zqiq
noncomputable def zqis : En := ⟨150, .spec (sg [b27y] [] [b30y] [] zqir), pf [zqio] [] [.tmp 2] Tryz.func150 (by kernel_rfl) fun _ _ => by kernel_rfl⟩
abbrev zqit := {β : Type} → t0y → t0y → (t0y → Option β) → Option β
def zqiu : zqit := fun a b k =>
 k ((if b.1 > a.1 then b.1 else a.1), (if b.2 < a.2 then b.2 else a.2))
def zqiv : zqit := hid zqiu
noncomputable def zqiw : En := ⟨151, .spec (sg [b35y, b35y] [] [b35y] [] zqiv), pf [] [] [.cell 4 57] Tryz.func151 (by kernel_rfl) fun _ _ => by kernel_rfl⟩
abbrev zqix := {β : Type} → t0y → (Bool → Option β) → Option β
def zqiy : zqix := fun a k =>
 k (decide (a.2 < a.1))
def zqiz : zqix := hid zqiy
noncomputable def zqj0 : En := ⟨153, .spec (sg [b35y] [] [b30y] [] zqiz), pf [] [] [.tmp 2] Tryz.func153 (by kernel_rfl) fun _ _ => by kernel_rfl⟩
abbrev zqj1 := {β : Type} → Int → Int → Int → (Bool → Option β) → Option β
def zqj2 : zqj1 := fun n low high k =>
 cond (decide (low ≤ n))
 (k (decide (n ≤ high)))
 (k false)
def zqj3 : zqj1 := hid zqj2
noncomputable def zqj4 : En := ⟨155, .spec (sg [b27y, b27y, b27y] [] [b30y] [] zqj3), pf [] [] [.tmp 6] Tryz.func155 (by kernel_rfl) fun _ _ => by kernel_rfl⟩
abbrev zqj5 := {β : Type} → t2y → Int → (Bool → Int → Option β) → Option β
def zqj6 : zqj5 := fun d t1 k =>
 zqj3 d.1 (0 : Int) (IntKind.i64.wrap (t1 - (1 : Int))) (fun (rin : Bool) =>
 cond (!rin)
 (k true t1)
 (zqj3 d.2.1 (0 : Int) (IntKind.i64.wrap (t1 - (1 : Int))) (fun (rin2 : Bool) =>
 cond (!rin2)
 (k true t1)
 (zqj3 d.2.2 (-17179869184 : Int) (17179869184 : Int) (fun (rin3 : Bool) =>
 k (!rin3) t1)))))
def zqj7 : zqj5 := hid zqj6
noncomputable def zqj8 : En := ⟨157, .spec (sg [b70y, b29y] [b71y] [b30y] [b71y] zqj7), pf [zqj4] [] [.tmp 3] Tryz.func157 (by kernel_rfl) fun _ _ => by kernel_rfl⟩
abbrev zqj9 := {β : Type} → t0y → t0y → (t0y → Option β) → Option β
def zqja : zqj9 := fun a b k =>
 k ((if b.1 > a.1 then b.1 else a.1), (if b.2 < a.2 then b.2 else a.2))
def zqjb : zqj9 := hid zqja
noncomputable def zqjc : En := ⟨158, .spec (sg [b35y, b35y] [] [b35y] [] zqjb), pf [] [] [.cell 4 57] Tryz.func158 (by kernel_rfl) fun _ _ => by kernel_rfl⟩
abbrev zqjd := {β : Type} → t5y → zqc → Int → (t0y → Option β) → Option β
def zqje : zqjd := fun h s clock k =>
 zq56 h.2 (0 : Int) (500000 : Int) (fun (rIn : Bool) =>
 cond (!rIn)
 (k ((-1099511627776 : Int), (1099511627776 : Int)))
 (zq56 s.2.1 (0 : Int) (8589934592 : Int) (fun (rIn2 : Bool) =>
 cond (!rIn2)
 (k ((-1099511627776 : Int), (1099511627776 : Int)))
 (zq56 s.2.2.1 (0 : Int) s.2.2.2 (fun (rIn3 : Bool) =>
 cond (!rIn3)
 (k ((-1099511627776 : Int), (1099511627776 : Int)))
 (cond (decide ((8589934592 : Int) < s.2.2.2))
 (k ((-1099511627776 : Int), (1099511627776 : Int)))
 (zq56 clock (0 : Int) (8589934592 : Int) (fun (rIn4 : Bool) =>
 cond (!rIn4)
 (k ((-1099511627776 : Int), (1099511627776 : Int)))
 (cond (decide (s.2.1 ≤ clock))
 (zqhb h.2 (IntKind.i64.wrap (clock - s.2.1)) (fun (rElapsed : Int) (rElapsed2 : Int) =>
 k ((IntKind.i64.wrap (s.2.2.1 + rElapsed)), (IntKind.i64.wrap (s.2.2.2 + rElapsed2)))))
 (zqhb h.2 (IntKind.i64.wrap (s.2.1 - clock)) (fun (rElapsed : Int) (rElapsed2 : Int) =>
 k ((IntKind.i64.wrap (s.2.2.1 - rElapsed2)), (IntKind.i64.wrap (s.2.2.2 - rElapsed))))))))))))))
def zqjf : zqjd := hid zqje
noncomputable def zqjg : En := ⟨159, .spec (sg [(true, [.data (.prod .str (.int .i64))]), (true, [.data zqd]), b27y] [] [b35y] [] zqjf), pf [zq57, zqhc] [] [.cell 6 57] Tryz.func159 (by kernel_rfl) fun _ _ => by kernel_rfl⟩
abbrev zqjh := {β : Type} → t0y → (Bool → Option β) → Option β
def zqji : zqjh := fun a k =>
 k (decide (a.2 < a.1))
def zqjj : zqjh := hid zqji
noncomputable def zqjk : En := ⟨160, .spec (sg [b35y] [] [b30y] [] zqjj), pf [] [] [.tmp 2] Tryz.func160 (by kernel_rfl) fun _ _ => by kernel_rfl⟩
abbrev zqjl := {β : Type} → Int → Int → (Int → Option β) → Option β
def zqjm : zqjl := fun a b k =>
 cond (!decide (b = 0))
 (let t : Int := (IntKind.i64.wrap (Int.tdiv (IntKind.i64.wrap ((IntKind.i64.wrap (a + b)) - (1 : Int))) b));
 k t)
 none
def zqjn : zqjl := hid zqjm
noncomputable def zqjo : En := ⟨175, .spec (sg [b27y, b27y] [] [b27y] [] zqjn), pf [] [] [.tmp 4] Tryz.func175 (by kernel_rfl) fun _ _ => by kernel_rfl⟩
abbrev zqjp := {β : Type} → (List t8y) → Int → Int → (Int → Option β) → Option β
abbrev zqjq (β : Type) := Int → Option β
abbrev zqjr (β : Type) := (List t8y) → Int → Int → Int → Option β
noncomputable def zqjs : Pc := ⟨61, 0, Q1 26 (Q2 Tryz.f179), ⟨0, [0, 1, 2, 7], [b60y, b27y, b27y, b27y], []⟩, [(.exit 0, ⟨0, [1], [b27y], []⟩)]⟩
abbrev zqjt (β : Type) := (List t8y) → Int → Int → Int → Option β
abbrev zqju (β : Type) := (List t8y) → Int → Int → Int → Bool → t8y → Option β
noncomputable def zqjv : Pc := ⟨61, 0, Q1 1631 (Qb zqjs.c), ⟨0, [0, 1, 2, 7, 8, 36], [b60y, b27y, b27y, b27y, b29y, b30y], [b67y]⟩, [(.normal, ⟨0, [0, 1, 2, 7], [b60y, b27y, b27y, b27y], []⟩)]⟩
abbrev zqjw (β : Type) := (List t8y) → Int → Int → Int → Option β
abbrev zqjx (β : Type) := (List t8y) → Int → Int → Int → Bool → t8y → Option β
noncomputable def zqjy : Pc := ⟨61, 0, Q1 101 (Qb zqjs.c), ⟨0, [0, 1, 2, 7, 8, 19], [b60y, b27y, b27y, b27y, b29y, b30y], [b67y]⟩, [(.normal, ⟨0, [0, 1, 2, 7], [b60y, b27y, b27y, b27y], []⟩)]⟩
def zqjz {β : Type} (k1 : zqjt β) : zqju β := fun l person t i_ t36 x =>
 cond t36
 (k1 l x.2.2.1 t i_)
 (cond (decide (x.1 = (2 : Int)))
 (let t2 : Bool := (decide (person = x.2.2.1));
 cond t2
 (k1 l x.2.1 t i_)
 (k1 l person t i_))
 (k1 l person t i_))
def zqk0 {β : Type} := hid (zqjz (β := β))
noncomputable def zqk1 : Pb := ⟨1631, zqjv, fun _ => zqk0, pe (p := zqjv) [] [] 1631 (g := fun _ => zqjz) (by kernel_rfl) fun _ _ => by kernel_rfl⟩
def zqk2 {β : Type} (k1 : zqjw β) : zqjx β := fun l person t i_ t19 x =>
 cond t19
 (k1 l person t i_)
 (let t2 : Bool := (decide (x.1 = (1 : Int)));
 cond t2
 (k1 l x.2.1 t i_)
 (cond (decide (x.1 = (2 : Int)))
 (let t3 : Bool := (decide (person = x.2.1));
 zqk0 (fun (l2 : List t8y) (person2 : Int) (t4 : Int) (i_2 : Int) =>
 k1 l2 person2 t4 i_2) l person t i_ t3 x)
 (zqk0 (fun (l2 : List t8y) (person2 : Int) (t3 : Int) (i_2 : Int) =>
 k1 l2 person2 t3 i_2) l person t i_ false x)))
def zqk3 {β : Type} := hid (zqk2 (β := β))
noncomputable def zqk4 : Pb := ⟨101, zqjy, fun _ => zqk3, pe (p := zqjy) [] [zqk1] 101 (g := fun _ => zqk2) (by kernel_rfl) fun _ _ => by kernel_rfl⟩
def zqk5 {β : Type} (rec : zqjr β) (k1 : zqjq β) : zqjr β := fun l person t i_ =>
 cond (decide (i_ < (List.length l : Int)))
 (cond (decide (0 ≤ i_) && decide (i_ < (List.length l : Int)))
 (let e : t8y := List.getD l (Int.toNat i_) ((0 : Int), zq12);
 cond (decide (t < e.2.2.2.1))
 (zqk3 (fun (l2 : List t8y) (person2 : Int) (t2 : Int) (i_2 : Int) =>
 let i_3 : Int := (IntKind.i64.wrap (i_2 + (1 : Int)));
 rec l2 person2 t2 i_3) l person t i_ true e)
 (zqk3 (fun (l2 : List t8y) (person2 : Int) (t2 : Int) (i_2 : Int) =>
 let i_3 : Int := (IntKind.i64.wrap (i_2 + (1 : Int)));
 rec l2 person2 t2 i_3) l person t i_ (decide (e.2.2.2.2 ≤ t)) e))
 none)
 (k1 person)
def zqk6 (m : Nat) {β : Type} (k1 : zqjq β) : zqjr β := lp4 (fun r => zqk5 r k1) none m
theorem zqk7 {β : Type} (i : Nat) (k1) : zqk6 (β := β) (i + 1) k1 = zqk5 (zqk6 i k1) k1 := rfl
def zqk8 {β : Type} := hid (zqk6 (β := β) fuel)
noncomputable def zqk9 : Pb := ⟨26, zqjs, fun _ => zqk8, pl (p := zqjs) [] [zqk4] (g := fun i _ => zqk6 i) (by kernel_rfl) rfl (by kernel_rfl) (fun _ _ => rfl) fun _ _ _ _ => by kernel_rfl⟩
def zqka : zqjp := fun l person t k =>
 zqk8 (fun (person2 : Int) =>
 k person2) l person t (0 : Int)
def zqkb : zqjp := hid zqka
noncomputable def zqkc : En := ⟨179, .spec (sg [b60y, b27y, b27y] [] [b27y] [] zqkb), pf [] [zqk9] [.tmp 6] Tryz.func179 (by kernel_rfl) fun _ _ => by kernel_rfl⟩
abbrev zqkd := {β : Type} → zqi → (Bool → Option β) → Option β
abbrev zqke (β : Type) := Bool → Option β
abbrev zqkf (β : Type) := Bool → Int → zqi → Option β
noncomputable def zqkg : Pc := ⟨28, 0, Q1 58 (Q2 Tryz.f182), ⟨0, [1, 3, 4], [b29y, b30y, b27y], [b65y]⟩, [(.exit 0, ⟨0, [3], [b30y], []⟩)]⟩
def zqkh {β : Type} (rec : zqkf β) (k1 : zqke β) : zqkf β := fun ok i_ z =>
 cond (decide (i_ < (List.length z.2.2 : Int)))
 (cond ok
 (cond (decide (0 ≤ i_) && decide (i_ < (List.length z.2.2 : Int)))
 (let e : zqg := List.getD z.2.2 (Int.toNat i_) ((0 : Int), ((0 : Int), ((0 : Int), zq12)));
 cond (!decide ((60 : Int) = 0))
 (let ok2 : Bool := (decide ((Int.tmod e.2.2.2.2.2.2 (60 : Int)) = (0 : Int)));
 let i_2 : Int := (IntKind.i64.wrap (i_ + (1 : Int)));
 rec ok2 i_2 z)
 none)
 none)
 (let i_2 : Int := (IntKind.i64.wrap (i_ + (1 : Int)));
 rec false i_2 z))
 (k1 ok)
def zqki (m : Nat) {β : Type} (k1 : zqke β) : zqkf β := lp3 (fun r => zqkh r k1) none m
theorem zqkj {β : Type} (i : Nat) (k1) : zqki (β := β) (i + 1) k1 = zqkh (zqki i k1) k1 := rfl
def zqkk {β : Type} := hid (zqki (β := β) fuel)
noncomputable def zqkl : Pb := ⟨58, zqkg, fun _ => zqkk, pl (p := zqkg) [] [] (g := fun i _ => zqki i) (by kernel_rfl) rfl (by kernel_rfl) (fun _ _ => rfl) fun _ _ _ _ => by kernel_rfl⟩
def zqkm : zqkd := fun z k =>
 cond (!decide ((60 : Int) = 0))
 (let ok : Bool := (decide ((Int.tmod z.2.1 (60 : Int)) = (0 : Int)));
 zqkk (fun (ok2 : Bool) =>
 k ok2) ok (0 : Int) z)
 none
def zqkn : zqkd := hid zqkm
noncomputable def zqko : En := ⟨182, .spec (sg [b61y] [] [b30y] [] zqkn), pf [] [zqkl] [.tmp 2] Tryz.func182 (by kernel_rfl) fun _ _ => by kernel_rfl⟩
abbrev zqkp := {β : Type} → Int → Int → Int → (Bool → Option β) → Option β
def zqkq : zqkp := fun n lo hi k =>
 cond (decide (lo ≤ n))
 (k (decide (n ≤ hi)))
 (k false)
def zqkr : zqkp := hid zqkq
noncomputable def zqks : En := ⟨183, .spec (sg [b27y, b27y, b27y] [] [b30y] [] zqkr), pf [] [] [.tmp 6] Tryz.func183 (by kernel_rfl) fun _ _ => by kernel_rfl⟩
abbrev zqkt := {β : Type} → Int → (Bool → Option β) → Option β
def zqku : zqkt := fun n k =>
 zqkr n (0 : Int) (604800 : Int) (fun (rin : Bool) =>
 cond rin
 (cond (!decide ((3600 : Int) = 0))
 (let t : Bool := (decide ((Int.tmod n (3600 : Int)) = (0 : Int)));
 k t)
 none)
 (k false))
def zqkv : zqkt := hid zqku
noncomputable def zqkw : En := ⟨184, .spec (sg [b27y] [] [b30y] [] zqkv), pf [zqks] [] [.tmp 2] Tryz.func184 (by kernel_rfl) fun _ _ => by kernel_rfl⟩
abbrev zqkx := {β : Type} → Int → Int → (t0y → Option β) → Option β
def zqky : zqkx := fun t offset k =>
 let n : Int := (IntKind.i64.wrap ((IntKind.i64.wrap (t + offset)) + (864000 : Int)));
 cond (!decide ((86400 : Int) = 0))
 (cond (!decide ((86400 : Int) = 0))
 (k ((IntKind.i64.wrap ((IntKind.i64.wrap (Int.tdiv n (86400 : Int))) - (10 : Int))), (Int.tmod n (86400 : Int))))
 none)
 none
def zqkz : zqkx := hid zqky
noncomputable def zql0 : En := ⟨189, .spec (sg [b27y, b27y] [] [b35y] [] zqkz), pf [] [] [.cell 4 102] Tryz.func189 (by kernel_rfl) fun _ _ => by kernel_rfl⟩
abbrev zql1 := {β : Type} → Int → (Int → Option β) → Option β
def zql2 : zql1 := fun day k =>
 cond (!decide ((7 : Int) = 0))
 (cond (!decide ((7 : Int) = 0))
 (let t : Int := (Int.tmod (IntKind.i64.wrap ((Int.tmod day (7 : Int)) + (10 : Int))) (7 : Int));
 k t)
 none)
 none
def zql3 : zql1 := hid zql2
noncomputable def zql4 : En := ⟨190, .spec (sg [b27y] [] [b27y] [] zql3), pf [] [] [.tmp 2] Tryz.func190 (by kernel_rfl) fun _ _ => by kernel_rfl⟩
abbrev zql5 := {β : Type} → zqe → Int → Int → (Bool → Option β) → Option β
abbrev zql6 (β : Type) := Bool → Option β
abbrev zql7 (β : Type) := Unit → Option β
abbrev zql8 (β : Type) := Int → Int → Int → zqe → Option β
noncomputable def zql9 : Pc := ⟨42, 0, Q1 26 (Q2 Tryz.f192), ⟨0, [1, 2, 3, 7], [b27y, b27y, b29y, b27y], [b82y]⟩, [(.ret, ⟨0, [6], [b30y], []⟩), (.exit 0, ⟨0, [], [], []⟩)]⟩
def zqla {β : Type} (rec : zql8 β) (k1 : zql6 β) (k2 : zql7 β) : zql8 β := fun person t i_ s =>
 cond (decide (i_ < (List.length s.2.2 : Int)))
 (cond (decide (0 ≤ i_) && decide (i_ < (List.length s.2.2 : Int)))
 (let e : t8y := List.getD s.2.2 (Int.toNat i_) ((0 : Int), zq12);
 cond (decide (e.1 = (0 : Int)))
 (cond (decide (e.2.1 = person))
 (cond (decide (e.2.2.2.1 ≤ t))
 (cond (decide (t < e.2.2.2.2))
 (k1 true)
 (let i_2 : Int := (IntKind.i64.wrap (i_ + (1 : Int)));
 rec person t i_2 s))
 (let i_2 : Int := (IntKind.i64.wrap (i_ + (1 : Int)));
 rec person t i_2 s))
 (let i_2 : Int := (IntKind.i64.wrap (i_ + (1 : Int)));
 rec person t i_2 s))
 (let i_2 : Int := (IntKind.i64.wrap (i_ + (1 : Int)));
 rec person t i_2 s))
 none)
 (k2 ())
def zqlb (m : Nat) {β : Type} (k1 : zql6 β) (k2 : zql7 β) : zql8 β := lp4 (fun r => zqla r k1 k2) none m
theorem zqlc {β : Type} (i : Nat) (k1 k2) : zqlb (β := β) (i + 1) k1 k2 = zqla (zqlb i k1 k2) k1 k2 := rfl
def zqld {β : Type} := hid (zqlb (β := β) fuel)
noncomputable def zqle : Pb := ⟨26, zql9, fun _ => zqld, pl (p := zql9) [] [] (g := fun i _ => zqlb i) (by kernel_rfl) rfl (by kernel_rfl) (fun _ _ => rfl) fun _ _ _ _ => by kernel_rfl⟩
def zqlf : zql5 := fun s person t k =>
 zqld (fun (t6 : Bool) =>
 k t6) (fun (_ : Unit) =>
 k false) person t (0 : Int) s
def zqlg : zql5 := hid zqlf
noncomputable def zqlh : En := ⟨192, .spec (sg [(true, [.data zqf]), b27y, b27y] [] [b30y] [] zqlg), pf [] [zqle] [.tmp 6] Tryz.func192 (by kernel_rfl) fun _ _ => by kernel_rfl⟩
abbrev zqli := {β : Type} → Int → (Int → Option β) → Option β
def zqlj : zqli := fun y k =>
 cond (!decide ((4 : Int) = 0))
 (cond (!decide ((100 : Int) = 0))
 (cond (!decide ((400 : Int) = 0))
 (let t : Int := (IntKind.i64.wrap ((IntKind.i64.wrap ((IntKind.i64.wrap ((IntKind.i64.wrap ((IntKind.i64.wrap (y - (1970 : Int))) * (365 : Int))) + (IntKind.i64.wrap (Int.tdiv (IntKind.i64.wrap (y - (1969 : Int))) (4 : Int))))) - (IntKind.i64.wrap (Int.tdiv (IntKind.i64.wrap (y - (1901 : Int))) (100 : Int))))) + (IntKind.i64.wrap (Int.tdiv (IntKind.i64.wrap (y - (1601 : Int))) (400 : Int)))));
 k t)
 none)
 none)
 none
def zqlk : zqli := hid zqlj
noncomputable def zqll : En := ⟨195, .spec (sg [b27y] [] [b27y] [] zqlk), pf [] [] [.tmp 2] Tryz.func195 (by kernel_rfl) fun _ _ => by kernel_rfl⟩
abbrev zqlm := {β : Type} → Int → Int → Int → (Bool → Option β) → Option β
def zqln : zqlm := fun n lo hi k =>
 cond (decide (lo ≤ n))
 (k (decide (n ≤ hi)))
 (k false)
def zqlo : zqlm := hid zqln
noncomputable def zqlp : En := ⟨196, .spec (sg [b27y, b27y, b27y] [] [b30y] [] zqlo), pf [] [] [.tmp 6] Tryz.func196 (by kernel_rfl) fun _ _ => by kernel_rfl⟩
abbrev zqlq := {β : Type} → zqi → t10y → Int → (Int → Option β) → Option β
abbrev zqlr (β : Type) := Int → Option β
abbrev zqls (β : Type) := t10y → Int → Int → Int → Option β
noncomputable def zqlt : Pc := ⟨32, 0, Q1 58 (Q2 Tryz.f197), ⟨0, [1, 2, 7, 8], [b31y, b27y, b27y, b27y], []⟩, [(.exit 0, ⟨0, [7], [b27y], []⟩)]⟩
def zqlu {β : Type} (rec : zqls β) (k1 : zqlr β) : zqls β := fun l t n i_ =>
 cond (decide (i_ < (List.length l : Int)))
 (cond (decide (0 ≤ i_) && decide (i_ < (List.length l : Int)))
 (let e : t0y := List.getD l (Int.toNat i_) ((0 : Int), (0 : Int));
 cond (decide (e.1 ≤ t))
 (cond (decide (0 ≤ i_) && decide (i_ < (List.length l : Int)))
 (let e2 : t0y := List.getD l (Int.toNat i_) ((0 : Int), (0 : Int));
 let i_2 : Int := (IntKind.i64.wrap (i_ + (1 : Int)));
 rec l t e2.2 i_2)
 none)
 (k1 n))
 none)
 (k1 n)
def zqlv (m : Nat) {β : Type} (k1 : zqlr β) : zqls β := lp4 (fun r => zqlu r k1) none m
theorem zqlw {β : Type} (i : Nat) (k1) : zqlv (β := β) (i + 1) k1 = zqlu (zqlv i k1) k1 := rfl
def zqlx {β : Type} := hid (zqlv (β := β) fuel)
noncomputable def zqly : Pb := ⟨58, zqlt, fun _ => zqlx, pl (p := zqlt) [] [] (g := fun i _ => zqlv i) (by kernel_rfl) rfl (by kernel_rfl) (fun _ _ => rfl) fun _ _ _ _ => by kernel_rfl⟩
def zqlz : zqlq := fun z l t k =>
 zqlx (fun (n : Int) =>
 k n) l t z.2.1 (0 : Int)
def zqm0 : zqlq := hid zqlz
noncomputable def zqm1 : En := ⟨197, .spec (sg [b61y, b31y, b27y] [] [b27y] [] zqm0), pf [] [zqly] [.tmp 6] Tryz.func197 (by kernel_rfl) fun _ _ => by kernel_rfl⟩
abbrev zqm2 := {β : Type} → Int → (Bool → Option β) → Option β
def zqm3 : zqm2 := fun b k =>
 cond (decide ((48 : Int) ≤ b))
 (let t : Bool := (decide (b ≤ (57 : Int)));
 k t)
 (k false)
def zqm4 : zqm2 := hid zqm3
noncomputable def zqm5 : En := ⟨199, .spec (sg [(false, [.data (.int .u8)])] [] [b30y] [] zqm4), pf [] [] [.tmp 2] Tryz.func199 (by kernel_rfl) fun _ _ => by kernel_rfl⟩
abbrev zqm6 := {β : Type} → zqg → (Bool → Option β) → Option β
def zqm7 : zqm6 := fun r_ k =>
 zqlo r_.1 (1970 : Int) (2240 : Int) (fun (rin : Bool) =>
 cond rin
 (zqlo r_.2.1 r_.1 (2240 : Int) (fun (rin2 : Bool) =>
 cond rin2
 (zqlo r_.2.2.1 (1 : Int) (12 : Int) (fun (rin3 : Bool) =>
 cond rin3
 (zqlo r_.2.2.2.1 (1 : Int) (5 : Int) (fun (rin4 : Bool) =>
 cond rin4
 (zqlo r_.2.2.2.2.1 (0 : Int) (6 : Int) (fun (rin5 : Bool) =>
 cond rin5
 (zqlo r_.2.2.2.2.2.1 (0 : Int) (86399 : Int) (fun (rin6 : Bool) =>
 cond rin6
 (zqlo r_.2.2.2.2.2.2 (-64800 : Int) (64800 : Int) (fun (rin7 : Bool) =>
 k rin7))
 (k false)))
 (k false)))
 (k false)))
 (k false)))
 (k false)))
 (k false))
def zqm8 : zqm6 := hid zqm7
noncomputable def zqm9 : En := ⟨200, .spec (sg [(true, [.data zqh])] [] [b30y] [] zqm8), pf [zqlp] [] [.tmp 2] Tryz.func200 (by kernel_rfl) fun _ _ => by kernel_rfl⟩
abbrev zqma := {β : Type} → Int → (Bool → Option β) → Option β
def zqmb : zqma := fun year k =>
 cond (!decide ((4 : Int) = 0))
 (cond (decide ((Int.tmod year (4 : Int)) = (0 : Int)))
 (cond (!decide ((100 : Int) = 0))
 (cond (!decide ((Int.tmod year (100 : Int)) = (0 : Int)))
 (k true)
 (cond (!decide ((400 : Int) = 0))
 (let t : Bool := (decide ((Int.tmod year (400 : Int)) = (0 : Int)));
 k t)
 none))
 none)
 (k false))
 none
def zqmc : zqma := hid zqmb
noncomputable def zqmd : En := ⟨211, .spec (sg [b27y] [] [b30y] [] zqmc), pf [] [] [.tmp 2] Tryz.func211 (by kernel_rfl) fun _ _ => by kernel_rfl⟩
abbrev zqme := {β : Type} → Int → (Bool → Option β) → Option β
def zqmf : zqme := fun day k =>
 zqlo day (-2 : Int) (99422 : Int) (fun (rin : Bool) =>
 k rin)
def zqmg : zqme := hid zqmf
noncomputable def zqmh : En := ⟨212, .spec (sg [b27y] [] [b30y] [] zqmg), pf [zqlp] [] [.tmp 2] Tryz.func212 (by kernel_rfl) fun _ _ => by kernel_rfl⟩
abbrev zqmi := {β : Type} → t1y → (zqm → t1y → Option β) → Option β
noncomputable def zqmj : List En := [zq1t, zq2b, zq3f]
abbrev zqmk (β : Type) := t1y → t19y → t18y → t16y → t15y → t19y → t18y → t16y → t15y → Option β
abbrev zqml (β : Type) := Int → t1y → t26y → t19y → t18y → t16y → t15y → t19y → t18y → t16y → t15y → Option β
noncomputable def zqmm : Pc := ⟨108, 1, Q1 122 (Q2 Tryz.f7), ⟨1, [0, 2, 3, 4, 5], [b29y, b34y, b37y, b62y, b27y], [b28y, b76y, b74y, .row 9 .str, .row 94 zqj, .row 98 zql, .row 266 zq7, .row 108 zqf, .row 94 zqj, .row 98 zql, .row 266 zq7, .row 108 zqf]⟩, [(.exit 0, ⟨1, [0, 2, 3], [b29y, b34y, b37y], [b28y, b85y, b83y, .row 94 zqj, .row 98 zql, .row 266 zq7, .row 108 zqf, .row 94 zqj, .row 98 zql, .row 266 zq7, .row 108 zqf]⟩)]⟩
abbrev zqmn (β : Type) := t1y → t19y → t18y → t16y → t15y → t19y → t18y → t16y → t15y → Option β
abbrev zqmo (β : Type) := Int → t1y → t19y → t18y → t16y → t15y → t19y → t18y → t16y → t15y → Option β
noncomputable def zqmp : Pc := ⟨108, 1, Q1 250 (Q2 Tryz.f7), ⟨1, [0, 2, 3, 7], [b29y, b34y, b37y, b27y], [b28y, b85y, b83y, .row 94 zqj, .row 98 zql, .row 266 zq7, .row 108 zqf, .row 94 zqj, .row 98 zql, .row 266 zq7, .row 108 zqf]⟩, [(.exit 2, ⟨1, [2, 3], [b34y, b37y], [b28y, b85y, b83y, .row 94 zqj, .row 98 zql, .row 266 zq7, .row 108 zqf, .row 94 zqj, .row 98 zql, .row 266 zq7, .row 108 zqf]⟩)]⟩
abbrev zqmq (β : Type) := Int → t1y → t7y → Int → Int → Int → Int → Int → Int → Int → t19y → t18y → t16y → t15y → t19y → t18y → t16y → t15y → t3y → t10y → Option β
abbrev zqmr (β : Type) := Int → Int → t1y → t7y → Int → Int → Int → Int → Int → Int → Int → t19y → t18y → t16y → t15y → t19y → t18y → t16y → t15y → t3y → t10y → Option β
noncomputable def zqms : Pc := ⟨108, 1, Q1 202 (Qb zqmp.c), ⟨1, [0, 2, 3, 7, 8, 9], [b29y, b34y, b37y, b27y, b51y, b27y], [b28y, b76y, b74y, b75y, .row 94 zqj, .row 98 zql, .row 266 zq7, .row 108 zqf, .row 94 zqj, .row 98 zql, .row 266 zq7, .row 108 zqf, .row 3 (.int .i64), .row 100 (.prod (.int .i64) (.int .i64))]⟩, [(.exit 4, ⟨1, [0, 2, 3, 7, 8], [b29y, b34y, b37y, b27y, b51y], [b28y, b76y, b74y, b75y, .row 94 zqj, .row 98 zql, .row 266 zq7, .row 108 zqf, .row 94 zqj, .row 98 zql, .row 266 zq7, .row 108 zqf, .row 3 (.int .i64), .row 100 (.prod (.int .i64) (.int .i64))]⟩)]⟩
abbrev zqmt (β : Type) := Int → t1y → t7y → t19y → t18y → t16y → t15y → t19y → t18y → t16y → t15y → (List zqa) → (List t8y) → Option β
abbrev zqmu (β : Type) := Int → Int → t1y → t7y → t19y → t18y → t16y → t15y → t19y → t18y → t16y → t15y → (List zqa) → (List t8y) → Option β
noncomputable def zqmv : Pc := ⟨108, 1, Q1 826 (Qb zqmp.c), ⟨1, [0, 2, 3, 7, 10, 11], [b29y, b34y, b37y, b27y, b51y, b27y], [b28y, b76y, b74y, .cells 108 [.data .str, .rowh 12, .rowh 13], .row 94 zqj, .row 98 zql, .row 266 zq7, .row 108 zqf, .row 94 zqj, .row 98 zql, .row 266 zq7, .row 108 zqf, .row 104 zqb, .row 110 (.prod (.int .i64) zqd)]⟩, [(.exit 6, ⟨1, [0, 2, 3, 7, 10], [b29y, b34y, b37y, b27y, b51y], [b28y, b76y, b74y, .cells 108 [.data .str, .rowh 12, .rowh 13], .row 94 zqj, .row 98 zql, .row 266 zq7, .row 108 zqf, .row 94 zqj, .row 98 zql, .row 266 zq7, .row 108 zqf, .row 104 zqb, .row 110 (.prod (.int .i64) zqd)]⟩)]⟩
def zqmw {β : Type} (rec : zqml β) (k1 : zqmk β) : zqml β := fun i_ d names b4_ b5_ b6_ b7_ b8_ b9_ b10_ b11_ =>
 cond (decide (i_ < (4 : Int)))
 (cond (decide (0 ≤ i_) && decide (i_ < (List.length names : Int)))
 (zq1s (2 : Int) d (fun (rNext : Int) (mrNext : t1y) =>
 zq1s (4 : Int) mrNext (fun (rNext2 : Int) (mrNext2 : t1y) =>
 cond (decide (rNext2 = (0 : Int)))
 (let l : List Int := ([(0 : Int), (3600 : Int)] : List Int);
 zq2a l mrNext2 (fun (rOne : Int) (mrOne : t1y) =>
 let l2 : List Int := ([(7200 : Int), (86400 : Int), (604800 : Int)] : List Int);
 zq2a l2 mrOne (fun (rOne2 : Int) (mrOne2 : t1y) =>
 let l3 : List t0y := ([(rOne, rOne2)] : List t0y);
 let l4 : List zqk := ([((List.getD names (Int.toNat i_) ([] : List UInt8)), ((0 : Int), (l3, ((0 : Int), ((0 : Int), (decide (rNext = (0 : Int))))))))] : List zqk);
 cond (decide ((List.length b9_ + List.length l4) * 72 ≤ Q5))
 (let l5 : List zqk := (b9_ ++ l4);
 let i_2 : Int := (IntKind.i64.wrap (i_ + (1 : Int)));
 rec i_2 mrOne2 names b4_ b5_ b6_ b7_ b8_ l5 b10_ b11_)
 none)))
 (let l : List zqk := ([((List.getD names (Int.toNat i_) ([] : List UInt8)), ((0 : Int), (([] : List t0y), ((0 : Int), ((0 : Int), (decide (rNext = (0 : Int))))))))] : List zqk);
 cond (decide ((List.length b9_ + List.length l) * 72 ≤ Q5))
 (let l2 : List zqk := (b9_ ++ l);
 let i_2 : Int := (IntKind.i64.wrap (i_ + (1 : Int)));
 rec i_2 mrNext2 names b4_ b5_ b6_ b7_ b8_ l2 b10_ b11_)
 none))))
 none)
 (k1 d b4_ b5_ b6_ b7_ b8_ b9_ b10_ b11_)
def zqmx (m : Nat) {β : Type} (k1 : zqmk β) : zqml β := lp11 (fun r => zqmw r k1) none m
theorem zqmy {β : Type} (i : Nat) (k1) : zqmx (β := β) (i + 1) k1 = zqmw (zqmx i k1) k1 := rfl
def zqmz {β : Type} := hid (zqmx (β := β) fuel)
noncomputable def zqn0 : Pb := ⟨122, zqmm, fun _ => zqmz, pl (p := zqmm) zqmj [] (g := fun i _ => zqmx i) (by kernel_rfl) rfl (by kernel_rfl) (fun _ _ => rfl) fun _ _ _ _ => by kernel_rfl⟩
def zqn1 {β : Type} (rec : zqmr β) (k1 : zqmq β) : zqmr β := fun i_ k_ d l l2 l3 l4 l5 l6 l7 l8 b4_ b5_ b6_ b7_ b8_ b9_ b10_ b11_ b12_ b13_ =>
 cond (decide ((0 : Int) < k_))
 (zq1s (4 : Int) d (fun (rNext : Int) (mrNext : t1y) =>
 let l9 : List Int := ([rNext] : List Int);
 cond (decide ((List.length b12_ + List.length l9) * 8 ≤ Q5))
 (let l10 : List Int := (b12_ ++ l9);
 let k_2 : Int := (IntKind.i64.wrap (k_ - (1 : Int)));
 rec i_ k_2 mrNext l l2 l3 l4 l5 l6 l7 l8 b4_ b5_ b6_ b7_ b8_ b9_ b10_ b11_ l10 b13_)
 none))
 (k1 i_ d l l2 l3 l4 l5 l6 l7 l8 b4_ b5_ b6_ b7_ b8_ b9_ b10_ b11_ b12_ b13_)
def zqn2 (m : Nat) {β : Type} (k1 : zqmq β) : zqmr β := lp21 (fun r => zqn1 r k1) none m
theorem zqn3 {β : Type} (i : Nat) (k1) : zqn2 (β := β) (i + 1) k1 = zqn1 (zqn2 i k1) k1 := rfl
def zqn4 {β : Type} := hid (zqn2 (β := β) fuel)
noncomputable def zqn5 : Pb := ⟨202, zqms, fun _ => zqn4, pl (p := zqms) zqmj [] (g := fun i _ => zqn2 i) (by kernel_rfl) rfl (by kernel_rfl) (fun _ _ => rfl) fun _ _ _ _ => by kernel_rfl⟩
def zqn6 {β : Type} (rec : zqmu β) (k1 : zqmt β) : zqmu β := fun i_ k_ d s b4_ b5_ b6_ b7_ b8_ b9_ b10_ b11_ b12_ b13_ =>
 cond (decide ((0 : Int) < k_))
 (zq3e d (fun (rOverride : t8y) (mrOverride : t1y) =>
 let l : List t8y := ([rOverride] : List t8y);
 cond (decide ((List.length b13_ + List.length l) * 40 ≤ Q5))
 (let l2 : List t8y := (b13_ ++ l);
 let k_2 : Int := (IntKind.i64.wrap (k_ - (1 : Int)));
 rec i_ k_2 mrOverride s b4_ b5_ b6_ b7_ b8_ b9_ b10_ b11_ b12_ l2)
 none))
 (k1 i_ d s b4_ b5_ b6_ b7_ b8_ b9_ b10_ b11_ b12_ b13_)
def zqn7 (m : Nat) {β : Type} (k1 : zqmt β) : zqmu β := lp14 (fun r => zqn6 r k1) none m
theorem zqn8 {β : Type} (i : Nat) (k1) : zqn7 (β := β) (i + 1) k1 = zqn6 (zqn7 i k1) k1 := rfl
def zqn9 {β : Type} := hid (zqn7 (β := β) fuel)
noncomputable def zqna : Pb := ⟨826, zqmv, fun _ => zqn9, pl (p := zqmv) zqmj [] (g := fun i _ => zqn7 i) (by kernel_rfl) rfl (by kernel_rfl) (fun _ _ => rfl) fun _ _ _ _ => by kernel_rfl⟩
def zqnb {β : Type} (rec : zqmo β) (k1 : zqmn β) : zqmo β := fun i_ d b3_ b4_ b5_ b6_ b7_ b8_ b9_ b10_ =>
 cond (decide (i_ < (2 : Int)))
 (let l : List Int := ([(1 : Int), (9 : Int), (10 : Int)] : List Int);
 zq2a l d (fun (rOne : Int) (mrOne : t1y) =>
 let l2 : List Int := ([(0 : Int), (1800 : Int), (43200 : Int)] : List Int);
 zq2a l2 mrOne (fun (rOne2 : Int) (mrOne2 : t1y) =>
 let l3 : List Int := ([(0 : Int), (0 : Int), (1 : Int)] : List Int);
 zq2a l3 mrOne2 (fun (rOne3 : Int) (mrOne3 : t1y) =>
 zq1s (3 : Int) mrOne3 (fun (rNext : Int) (mrNext : t1y) =>
 zq1s (3 : Int) mrNext (fun (rNext2 : Int) (mrNext2 : t1y) =>
 let k_ : Int := (IntKind.i64.wrap ((1 : Int) + rNext2));
 zqn4 (fun (i_2 : Int) (d2 : t1y) (l4 : List UInt8) (l5 : Int) (l6 : Int) (l7 : Int) (l8 : Int) (l9 : Int) (l10 : Int) (l11 : Int) (b4_2 : List zqi) (b5_2 : List zqk) (b6_2 : List zq6) (b7_2 : List zqe) (b8_2 : List zqi) (b9_2 : List zqk) (b10_2 : List zq6) (b11_ : List zqe) (b12_ : List Int) (b13_ : List t0y) =>
 let l12 : List t7y := ([([102, 105, 114, 115, 116] : List UInt8), ([115, 101, 99, 111, 110, 100] : List UInt8)] : List t7y);
 cond (decide (0 ≤ i_2) && decide (i_2 < (List.length l12 : Int)))
 (let l13 : List zqa := ([(l4, (l5, ((l6, l7), (l8, (l9, (b12_, (b13_, (l10, l11))))))))] : List zqa);
 zq1s (3 : Int) d2 (fun (rNext3 : Int) (mrNext3 : t1y) =>
 zqn9 (fun (i_3 : Int) (d3 : t1y) (s : List UInt8) (b4_3 : List zqi) (b5_3 : List zqk) (b6_3 : List zq6) (b7_3 : List zqe) (b8_3 : List zqi) (b9_3 : List zqk) (b10_3 : List zq6) (b11_2 : List zqe) (b12_2 : List zqa) (b13_2 : List t8y) =>
 let l14 : List zqe := ([(s, (b12_2, b13_2))] : List zqe);
 cond (decide ((List.length b11_2 + List.length l14) * 64 ≤ Q5))
 (let l15 : List zqe := (b11_2 ++ l14);
 let i_4 : Int := (IntKind.i64.wrap (i_3 + (1 : Int)));
 rec i_4 d3 b4_3 b5_3 b6_3 b7_3 b8_3 b9_3 b10_3 l15)
 none) i_2 rNext3 mrNext3 (List.getD l12 (Int.toNat i_2) ([] : List UInt8)) b4_2 b5_2 b6_2 b7_2 b8_2 b9_2 b10_2 b11_ l13 ([] : List t8y)))
 none) i_ k_ mrNext2 ([108] : List UInt8) (0 : Int) rOne rOne2 rOne3 (IntKind.i64.wrap ((1 : Int) + rNext)) (0 : Int) (0 : Int) b3_ b4_ b5_ b6_ b7_ b8_ b9_ b10_ ([] : List Int) ([] : List t0y)))))))
 (k1 d b3_ b4_ b5_ b6_ b7_ b8_ b9_ b10_)
def zqnc (m : Nat) {β : Type} (k1 : zqmn β) : zqmo β := lp10 (fun r => zqnb r k1) none m
theorem zqnd {β : Type} (i : Nat) (k1) : zqnc (β := β) (i + 1) k1 = zqnb (zqnc i k1) k1 := rfl
def zqne {β : Type} := hid (zqnc (β := β) fuel)
noncomputable def zqnf : Pb := ⟨250, zqmp, fun _ => zqne, pl (p := zqmp) zqmj [zqn5, zqna] (g := fun i _ => zqnc i) (by kernel_rfl) rfl (by kernel_rfl) (fun _ _ => rfl) fun _ _ _ _ => by kernel_rfl⟩
def zqng : zqmi := fun d k =>
 let l : List Int := ([(0 : Int), (3600 : Int), (-7200 : Int)] : List Int);
 zq2a l d (fun (rOne : Int) (mrOne : t1y) =>
 let l2 : List zqi := ([(([122] : List UInt8), (rOne, ([] : List zqg)))] : List zqi);
 let l3 : List t7y := ([([97, 110, 110] : List UInt8), ([98, 111, 98] : List UInt8), ([99, 97, 116] : List UInt8), ([100, 97, 110] : List UInt8)] : List t7y);
 zqmz (fun (d2 : t1y) (b3_ : List zqi) (b4_ : List zqk) (b5_ : List zq6) (b6_ : List zqe) (b7_ : List zqi) (b8_ : List zqk) (b9_ : List zq6) (b10_ : List zqe) =>
 zqne (fun (b0_ : t1y) (b3_2 : List zqi) (b4_2 : List zqk) (b5_2 : List zq6) (b6_2 : List zqe) (b7_2 : List zqi) (b8_2 : List zqk) (b9_2 : List zq6) (b10_2 : List zqe) =>
 k (b7_2, (b8_2, (b9_2, b10_2))) b0_) (0 : Int) d2 b3_ b4_ b5_ b6_ b7_ b8_ b9_ b10_) (0 : Int) mrOne l3 ([] : List zqi) ([] : List zqk) ([] : List zq6) ([] : List zqe) l2 ([] : List zqk) ([] : List zq6) ([] : List zqe))
def zqnh : zqmi := hid zqng
noncomputable def zqni : En := ⟨7, .spec (sg [b29y] [b28y] [b47y] [b28y] zqnh), pf zqmj [zqn0, zqnf] [.cell 2 34] Tryz.func7 (by kernel_rfl) fun _ _ => by kernel_rfl⟩
abbrev zqnj := {β : Type} → t1y → (zq4 → t1y → Option β) → Option β
noncomputable def zqnk : List En := [zq1t, zq2b, zq3q]
abbrev zqnl (β : Type) := t1y → t24y → t17y → t24y → t17y → Option β
abbrev zqnm (β : Type) := Int → t1y → t24y → t17y → t24y → t17y → Option β
noncomputable def zqnn : Pc := ⟨102, 1, Q1 58 (Q2 Tryz.f8), ⟨1, [0, 2, 3, 4], [b29y, b34y, b37y, b27y], [b28y, .cells 39 [.rowh 3, .rowh 4], .cells 39 [.rowh 5, .rowh 6], .row 113 (.prod .str (.slice (.int .i64))), .row 116 zq3, .row 113 (.prod .str (.slice (.int .i64))), .row 116 zq3]⟩, [(.exit 0, ⟨1, [0, 2, 3], [b29y, b34y, b37y], [b28y, .cells 39 [.rowh 3, .rowh 4], .cells 39 [.rowh 5, .rowh 6], .row 113 (.prod .str (.slice (.int .i64))), .row 116 zq3, .row 113 (.prod .str (.slice (.int .i64))), .row 116 zq3]⟩)]⟩
abbrev zqno (β : Type) := t1y → t24y → t24y → t17y → t17y → Option β
abbrev zqnp (β : Type) := Int → t1y → t24y → t24y → t17y → t17y → Option β
noncomputable def zqnq : Pc := ⟨102, 1, Q1 122 (Q2 Tryz.f8), ⟨1, [0, 2, 3, 6], [b29y, b34y, b37y, b27y], [b28y, .cells 39 [.rowh 3, .rowh 4], .cells 39 [.data (.slice (.prod .str (.slice (.int .i64)))), .rowh 5], .row 113 (.prod .str (.slice (.int .i64))), .row 116 zq3, .row 116 zq3]⟩, [(.exit 2, ⟨1, [2, 3], [b34y, b37y], [b28y, .cells 39 [.rowh 3, .rowh 4], .cells 39 [.data (.slice (.prod .str (.slice (.int .i64)))), .rowh 5], .row 113 (.prod .str (.slice (.int .i64))), .row 116 zq3, .row 116 zq3]⟩)]⟩
abbrev zqnr (β : Type) := Int → t1y → t24y → t7y → Int → t24y → t17y → t17y → (List zq0) → Option β
abbrev zqns (β : Type) := Int → Int → t1y → t24y → t7y → Int → t24y → t17y → t17y → (List zq0) → Option β
noncomputable def zqnt : Pc := ⟨102, 1, Q1 202 (Qb zqnq.c), ⟨1, [0, 2, 3, 6, 7, 8], [b29y, b34y, b37y, b27y, b51y, b27y], [b28y, .cells 39 [.rowh 4, .rowh 5], .cells 39 [.data (.slice (.prod .str (.slice (.int .i64)))), .rowh 6], .cells 116 [.data .str, .rowh 7, .data (.int .i64)], .row 113 (.prod .str (.slice (.int .i64))), .row 116 zq3, .row 116 zq3, .row 119 zq1]⟩, [(.exit 4, ⟨1, [0, 2, 3, 6, 7], [b29y, b34y, b37y, b27y, b51y], [b28y, .cells 39 [.rowh 4, .rowh 5], .cells 39 [.data (.slice (.prod .str (.slice (.int .i64)))), .rowh 6], .cells 116 [.data .str, .rowh 7, .data (.int .i64)], .row 113 (.prod .str (.slice (.int .i64))), .row 116 zq3, .row 116 zq3, .row 119 zq1]⟩)]⟩
abbrev zqnu (β : Type) := Int → Int → t1y → t24y → t7y → Int → Int → Bool → t24y → t17y → t17y → (List zq0) → t10y → Option β
abbrev zqnv (β : Type) := Int → Int → Int → t1y → t24y → t7y → Int → Int → Bool → t24y → t17y → t17y → (List zq0) → t10y → Option β
noncomputable def zqnw : Pc := ⟨102, 1, Q1 202 (Qb zqnt.c), ⟨1, [0, 2, 3, 6, 7, 8, 9, 10], [b29y, b34y, b37y, b27y, b51y, b27y, b78y, b27y], [b28y, .cells 39 [.rowh 5, .rowh 6], .cells 39 [.data (.slice (.prod .str (.slice (.int .i64)))), .rowh 7], .cells 116 [.data .str, .rowh 8, .data (.int .i64)], .cells 119 [.data (.int .i64), .data .bool, .rowh 9], .row 113 (.prod .str (.slice (.int .i64))), .row 116 zq3, .row 116 zq3, .row 119 zq1, .row 121 (.prod (.int .i64) (.int .i64))]⟩, [(.exit 6, ⟨1, [0, 2, 3, 6, 7, 8, 9], [b29y, b34y, b37y, b27y, b51y, b27y, b78y], [b28y, .cells 39 [.rowh 5, .rowh 6], .cells 39 [.data (.slice (.prod .str (.slice (.int .i64)))), .rowh 7], .cells 116 [.data .str, .rowh 8, .data (.int .i64)], .cells 119 [.data (.int .i64), .data .bool, .rowh 9], .row 113 (.prod .str (.slice (.int .i64))), .row 116 zq3, .row 116 zq3, .row 119 zq1, .row 121 (.prod (.int .i64) (.int .i64))]⟩)]⟩
def zqnx {β : Type} (rec : zqnm β) (k1 : zqnl β) : zqnm β := fun i_ d b3_ b4_ b5_ b6_ =>
 cond (decide ((0 : Int) < i_))
 (let l : List t7y := ([([99, 111, 114, 101] : List UInt8), ([119, 101, 98] : List UInt8)] : List t7y);
 cond (decide (0 ≤ (List.length b5_ : Int)) && decide ((List.length b5_ : Int) < (List.length l : Int)))
 (zq1s (2 : Int) d (fun (rNext : Int) (mrNext : t1y) =>
 let l2 : List Int := ([rNext] : List Int);
 zq1s (2 : Int) mrNext (fun (rNext2 : Int) (mrNext2 : t1y) =>
 cond (decide (rNext2 = (0 : Int)))
 (zq1s (2 : Int) mrNext2 (fun (rNext3 : Int) (mrNext3 : t1y) =>
 let l3 : List Int := ([(IntKind.i64.wrap ((2 : Int) + rNext3))] : List Int);
 cond (decide ((List.length l2 + List.length l3) * 8 ≤ Q5))
 (let l4 : List Int := (l2 ++ l3);
 let l5 : List t6y := ([((List.getD l (Int.toNat (List.length b5_ : Int)) ([] : List UInt8)), l4)] : List t6y);
 cond (decide ((List.length b5_ + List.length l5) * 40 ≤ Q5))
 (let l6 : List t6y := (b5_ ++ l5);
 let i_2 : Int := (IntKind.i64.wrap (i_ - (1 : Int)));
 rec i_2 mrNext3 b3_ b4_ l6 b6_)
 none)
 none))
 (let l3 : List t6y := ([((List.getD l (Int.toNat (List.length b5_ : Int)) ([] : List UInt8)), l2)] : List t6y);
 cond (decide ((List.length b5_ + List.length l3) * 40 ≤ Q5))
 (let l4 : List t6y := (b5_ ++ l3);
 let i_2 : Int := (IntKind.i64.wrap (i_ - (1 : Int)));
 rec i_2 mrNext2 b3_ b4_ l4 b6_)
 none))))
 none)
 (k1 d b3_ b4_ b5_ b6_)
def zqny (m : Nat) {β : Type} (k1 : zqnl β) : zqnm β := lp6 (fun r => zqnx r k1) none m
theorem zqnz {β : Type} (i : Nat) (k1) : zqny (β := β) (i + 1) k1 = zqnx (zqny i k1) k1 := rfl
def zqo0 {β : Type} := hid (zqny (β := β) fuel)
noncomputable def zqo1 : Pb := ⟨58, zqnn, fun _ => zqo0, Q1n mixed (X := ⟨look tab, gam zqnk, false, false, false, false, [(39, [0])]⟩) (p := zqnn) Qp zqnk rfl [] (g := fun i _ => zqny i) (by kernel_rfl) rfl (by kernel_rfl) (fun _ _ => rfl) fun _ _ _ _ => by kernel_rfl⟩
def zqo2 {β : Type} (rec : zqnv β) (k1 : zqnu β) : zqnv β := fun i_ k_ j d b p_ p_2 s s2 b5_ b6_ b7_ b8_ b9_ =>
 cond (decide ((0 : Int) < j))
 (zq3p b d (fun (rTarget : t0y) (mrTarget : t1y) =>
 let l : List t0y := ([rTarget] : List t0y);
 cond (decide ((List.length b9_ + List.length l) * 16 ≤ Q5))
 (let l2 : List t0y := (b9_ ++ l);
 let j2 : Int := (IntKind.i64.wrap (j - (1 : Int)));
 rec i_ k_ j2 mrTarget b p_ p_2 s s2 b5_ b6_ b7_ b8_ l2)
 none))
 (k1 i_ k_ d b p_ p_2 s s2 b5_ b6_ b7_ b8_ b9_)
def zqo3 (m : Nat) {β : Type} (k1 : zqnu β) : zqnv β := lp14 (fun r => zqo2 r k1) none m
theorem zqo4 {β : Type} (i : Nat) (k1) : zqo3 (β := β) (i + 1) k1 = zqo2 (zqo3 i k1) k1 := rfl
def zqo5 {β : Type} := hid (zqo3 (β := β) fuel)
noncomputable def zqo6 : Pb := ⟨202, zqnw, fun _ => zqo5, Q1n mixed (X := ⟨look tab, gam zqnk, false, false, false, false, [(39, [0])]⟩) (p := zqnw) Qp zqnk rfl [] (g := fun i _ => zqo3 i) (by kernel_rfl) rfl (by kernel_rfl) (fun _ _ => rfl) fun _ _ _ _ => by kernel_rfl⟩
def zqo7 {β : Type} (rec : zqns β) (k1 : zqnr β) : zqns β := fun i_ k_ d b p_ p_2 b4_ b5_ b6_ b7_ =>
 cond (decide ((0 : Int) < k_))
 (let l : List Int := ([(0 : Int), (60 : Int), (300 : Int), (600 : Int), (900 : Int)] : List Int);
 zq2a l d (fun (rOne : Int) (mrOne : t1y) =>
 zq1s (2 : Int) mrOne (fun (rNext : Int) (mrNext : t1y) =>
 zq1s (3 : Int) mrNext (fun (rNext2 : Int) (mrNext2 : t1y) =>
 zqo5 (fun (i_2 : Int) (k_2 : Int) (d2 : t1y) (b2 : List t6y) (p_3 : List UInt8) (p_4 : Int) (s : Int) (s2 : Bool) (b5_2 : List t6y) (b6_2 : List zq2) (b7_2 : List zq2) (b8_ : List zq0) (b9_ : List t0y) =>
 let l2 : List zq0 := ([(s, (s2, b9_))] : List zq0);
 cond (decide ((List.length b8_ + List.length l2) * 40 ≤ Q5))
 (let l3 : List zq0 := (b8_ ++ l2);
 let k_3 : Int := (IntKind.i64.wrap (k_2 - (1 : Int)));
 rec i_2 k_3 d2 b2 p_3 p_4 b5_2 b6_2 b7_2 l3)
 none) i_ k_ rNext2 mrNext2 b p_ p_2 rOne (decide (rNext = (0 : Int))) b4_ b5_ b6_ b7_ ([] : List t0y)))))
 (k1 i_ d b p_ p_2 b4_ b5_ b6_ b7_)
def zqo8 (m : Nat) {β : Type} (k1 : zqnr β) : zqns β := lp10 (fun r => zqo7 r k1) none m
theorem zqo9 {β : Type} (i : Nat) (k1) : zqo8 (β := β) (i + 1) k1 = zqo7 (zqo8 i k1) k1 := rfl
def zqoa {β : Type} := hid (zqo8 (β := β) fuel)
noncomputable def zqob : Pb := ⟨202, zqnt, fun _ => zqoa, Q1n mixed (X := ⟨look tab, gam zqnk, false, false, false, false, [(39, [0])]⟩) (p := zqnt) Qp zqnk rfl [zqo6] (g := fun i _ => zqo8 i) (by kernel_rfl) rfl (by kernel_rfl) (fun _ _ => rfl) fun _ _ _ _ => by kernel_rfl⟩
def zqoc {β : Type} (rec : zqnp β) (k1 : zqno β) : zqnp β := fun i_ d b b3_ b4_ b5_ =>
 cond (decide ((0 : Int) < i_))
 (let l : List t7y := ([([112] : List UInt8), ([113] : List UInt8), ([114] : List UInt8)] : List t7y);
 cond (decide (0 ≤ (List.length b5_ : Int)) && decide ((List.length b5_ : Int) < (List.length l : Int)))
 (let l2 : List Int := ([(0 : Int), (0 : Int), (1 : Int), (2 : Int)] : List Int);
 zq2a l2 d (fun (rOne : Int) (mrOne : t1y) =>
 zq1s (3 : Int) mrOne (fun (rNext : Int) (mrNext : t1y) =>
 let k_ : Int := (IntKind.i64.wrap ((1 : Int) + rNext));
 zqoa (fun (i_2 : Int) (d2 : t1y) (b2 : List t6y) (p_ : List UInt8) (p_2 : Int) (b4_2 : List t6y) (b5_2 : List zq2) (b6_ : List zq2) (b7_ : List zq0) =>
 let l3 : List zq2 := ([(p_, (b7_, p_2))] : List zq2);
 cond (decide ((List.length b6_ + List.length l3) * 48 ≤ Q5))
 (let l4 : List zq2 := (b6_ ++ l3);
 let i_3 : Int := (IntKind.i64.wrap (i_2 - (1 : Int)));
 rec i_3 d2 b2 b4_2 b5_2 l4)
 none) i_ k_ mrNext b (List.getD l (Int.toNat (List.length b5_ : Int)) ([] : List UInt8)) rOne b3_ b4_ b5_ ([] : List zq0))))
 none)
 (k1 d b b3_ b4_ b5_)
def zqod (m : Nat) {β : Type} (k1 : zqno β) : zqnp β := lp6 (fun r => zqoc r k1) none m
theorem zqoe {β : Type} (i : Nat) (k1) : zqod (β := β) (i + 1) k1 = zqoc (zqod i k1) k1 := rfl
def zqof {β : Type} := hid (zqod (β := β) fuel)
noncomputable def zqog : Pb := ⟨122, zqnq, fun _ => zqof, Q1n mixed (X := ⟨look tab, gam zqnk, false, false, false, false, [(39, [0])]⟩) (p := zqnq) Qp zqnk rfl [zqob] (g := fun i _ => zqod i) (by kernel_rfl) rfl (by kernel_rfl) (fun _ _ => rfl) fun _ _ _ _ => by kernel_rfl⟩
def zqoh : zqnj := fun d k =>
 zq1s (3 : Int) d (fun (rNext : Int) (mrNext : t1y) =>
 zqo0 (fun (d2 : t1y) (b3_ : List t6y) (b4_ : List zq2) (b5_ : List t6y) (b6_ : List zq2) =>
 zq1s (3 : Int) d2 (fun (rNext2 : Int) (mrNext2 : t1y) =>
 let i_ : Int := (IntKind.i64.wrap ((1 : Int) + rNext2));
 zqof (fun (b0_ : t1y) (b : List t6y) (b3_2 : List t6y) (b4_2 : List zq2) (b5_2 : List zq2) =>
 k (b, b5_2) b0_) i_ mrNext2 b5_ b3_ b4_ b6_)) rNext mrNext ([] : List t6y) ([] : List zq2) ([] : List t6y) ([] : List zq2))
def zqoi : zqnj := hid zqoh
noncomputable def zqoj : En := ⟨8, .spec (sg [b29y] [b28y] [b79y] [b28y] zqoi), Q7j mixed (X := ⟨look tab, gam zqnk, false, false, false, false, [(39, [0])]⟩) Qp zqnk rfl [zqo1, zqog] [.cell 2 39] Tryz.func8 (by kernel_rfl) fun _ _ => by kernel_rfl⟩
abbrev zqok := {β : Type} → Int → t1y → (zqo → t1y → t3y → Option β) → Option β
noncomputable def zqol : List En := [zq1t, zq2b]
abbrev zqom (β : Type) := Int → t1y → t3y → t23y → t13y → t11y → t9y → t23y → t13y → t11y → t9y → Option β
abbrev zqon (β : Type) := Int → Int → t1y → t3y → t23y → t13y → t11y → t9y → t23y → t13y → t11y → t9y → Option β
noncomputable def zqoo : Pc := ⟨177, 1, Q1 122 (Q2 Tryz.f14), ⟨1, [0, 1, 4, 6, 7, 8], [b29y, b27y, b34y, b37y, b62y, b27y], [b28y, b54y, b53y, .row 3 (.int .i64), .row 148 (.prod .str (.int .i64)), .row 150 zqd, .row 152 zq9, .row 154 (.prod (.int .i64) (.prod (.int .i64) (.int .i64))), .row 148 (.prod .str (.int .i64)), .row 150 zqd, .row 152 zq9, .row 154 (.prod (.int .i64) (.prod (.int .i64) (.int .i64)))]⟩, [(.exit 0, ⟨1, [0, 1, 4, 6, 7], [b29y, b27y, b34y, b37y, b62y], [b28y, b54y, b53y, .row 3 (.int .i64), .row 148 (.prod .str (.int .i64)), .row 150 zqd, .row 152 zq9, .row 154 (.prod (.int .i64) (.prod (.int .i64) (.int .i64))), .row 148 (.prod .str (.int .i64)), .row 150 zqd, .row 152 zq9, .row 154 (.prod (.int .i64) (.prod (.int .i64) (.int .i64)))]⟩)]⟩
abbrev zqop (β : Type) := Int → t1y → t3y → t23y → t13y → t11y → t9y → t23y → t13y → t11y → t9y → Option β
abbrev zqoq (β : Type) := Int → Int → t1y → t3y → t23y → t13y → t11y → t9y → t23y → t13y → t11y → t9y → Option β
noncomputable def zqor : Pc := ⟨177, 1, Q1 250 (Q2 Tryz.f14), ⟨1, [0, 1, 4, 6, 7, 9], [b29y, b27y, b34y, b37y, b62y, b27y], [b28y, b54y, b53y, .row 3 (.int .i64), .row 148 (.prod .str (.int .i64)), .row 150 zqd, .row 152 zq9, .row 154 (.prod (.int .i64) (.prod (.int .i64) (.int .i64))), .row 148 (.prod .str (.int .i64)), .row 150 zqd, .row 152 zq9, .row 154 (.prod (.int .i64) (.prod (.int .i64) (.int .i64)))]⟩, [(.exit 2, ⟨1, [0, 1, 4, 6, 7], [b29y, b27y, b34y, b37y, b62y], [b28y, b54y, b53y, .row 3 (.int .i64), .row 148 (.prod .str (.int .i64)), .row 150 zqd, .row 152 zq9, .row 154 (.prod (.int .i64) (.prod (.int .i64) (.int .i64))), .row 148 (.prod .str (.int .i64)), .row 150 zqd, .row 152 zq9, .row 154 (.prod (.int .i64) (.prod (.int .i64) (.int .i64)))]⟩)]⟩
abbrev zqos (β : Type) := t1y → t3y → t23y → t13y → t11y → t9y → t23y → t13y → t11y → t9y → Option β
abbrev zqot (β : Type) := Int → t1y → t3y → t3y → t23y → t13y → t11y → t9y → t23y → t13y → t11y → t9y → Option β
noncomputable def zqou : Pc := ⟨177, 1, Q1 1018 (Q2 Tryz.f14), ⟨1, [0, 4, 6, 7, 12, 13], [b29y, b34y, b37y, b62y, (false, [.rowh 4]), b27y], [b28y, .cells 68 [.rowh 5, .rowh 6, .rowh 7, .rowh 8], .cells 68 [.rowh 9, .rowh 10, .rowh 11, .rowh 12], .row 3 (.int .i64), .row 3 (.int .i64), .row 148 (.prod .str (.int .i64)), .row 150 zqd, .row 152 zq9, .row 154 (.prod (.int .i64) (.prod (.int .i64) (.int .i64))), .row 148 (.prod .str (.int .i64)), .row 150 zqd, .row 152 zq9, .row 154 (.prod (.int .i64) (.prod (.int .i64) (.int .i64)))]⟩, [(.exit 4, ⟨1, [0, 4, 6, 12], [b29y, b34y, b37y, b62y], [b28y, b54y, b53y, .row 3 (.int .i64), .row 148 (.prod .str (.int .i64)), .row 150 zqd, .row 152 zq9, .row 154 (.prod (.int .i64) (.prod (.int .i64) (.int .i64))), .row 148 (.prod .str (.int .i64)), .row 150 zqd, .row 152 zq9, .row 154 (.prod (.int .i64) (.prod (.int .i64) (.int .i64)))]⟩)]⟩
abbrev zqov (β : Type) := t1y → t3y → t23y → t13y → t11y → t9y → t23y → t13y → t11y → t9y → Option β
abbrev zqow (β : Type) := Int → t1y → t3y → t23y → t13y → t11y → t9y → t23y → t13y → t11y → t9y → Option β
noncomputable def zqox : Pc := ⟨177, 1, Q1 2042 (Q2 Tryz.f14), ⟨1, [0, 4, 6, 12, 16], [b29y, b34y, b37y, b62y, b27y], [b28y, b54y, b53y, .row 3 (.int .i64), .row 148 (.prod .str (.int .i64)), .row 150 zqd, .row 152 zq9, .row 154 (.prod (.int .i64) (.prod (.int .i64) (.int .i64))), .row 148 (.prod .str (.int .i64)), .row 150 zqd, .row 152 zq9, .row 154 (.prod (.int .i64) (.prod (.int .i64) (.int .i64)))]⟩, [(.exit 6, ⟨1, [4, 6, 12], [b34y, b37y, b62y], [b28y, b54y, b53y, .row 3 (.int .i64), .row 148 (.prod .str (.int .i64)), .row 150 zqd, .row 152 zq9, .row 154 (.prod (.int .i64) (.prod (.int .i64) (.int .i64))), .row 148 (.prod .str (.int .i64)), .row 150 zqd, .row 152 zq9, .row 154 (.prod (.int .i64) (.prod (.int .i64) (.int .i64)))]⟩)]⟩
abbrev zqoy (β : Type) := Int → t1y → t3y → t23y → t13y → t11y → t9y → t23y → t13y → t11y → t9y → Option β
abbrev zqoz (β : Type) := Int → Int → Int → Bool → t1y → t3y → t23y → t13y → t11y → t9y → t23y → t13y → t11y → t9y → Option β
noncomputable def zqp0 : Pc := ⟨177, 1, Q1 51 (Qb zqox.c), ⟨1, [0, 4, 6, 12, 16, 17, 18, 154], [b29y, b34y, b37y, b62y, b27y, b27y, b27y, b30y], [b28y, b54y, b53y, .row 3 (.int .i64), .row 148 (.prod .str (.int .i64)), .row 150 zqd, .row 152 zq9, .row 154 (.prod (.int .i64) (.prod (.int .i64) (.int .i64))), .row 148 (.prod .str (.int .i64)), .row 150 zqd, .row 152 zq9, .row 154 (.prod (.int .i64) (.prod (.int .i64) (.int .i64)))]⟩, [(.normal, ⟨1, [0, 4, 6, 12, 16], [b29y, b34y, b37y, b62y, b27y], [b28y, b54y, b53y, .row 3 (.int .i64), .row 148 (.prod .str (.int .i64)), .row 150 zqd, .row 152 zq9, .row 154 (.prod (.int .i64) (.prod (.int .i64) (.int .i64))), .row 148 (.prod .str (.int .i64)), .row 150 zqd, .row 152 zq9, .row 154 (.prod (.int .i64) (.prod (.int .i64) (.int .i64)))]⟩)]⟩
def zqp1 {β : Type} (rec : zqon β) (k1 : zqom β) : zqon β := fun n i_ d ahead b4_ b5_ b6_ b7_ b8_ b9_ b10_ b11_ =>
 cond (decide ((0 : Int) < i_))
 (let l : List t7y := ([([100, 98] : List UInt8), ([119, 101, 98] : List UInt8), ([108, 98] : List UInt8)] : List t7y);
 cond (decide (0 ≤ (List.length b8_ : Int)) && decide ((List.length b8_ : Int) < (List.length l : Int)))
 (let l2 : List Int := ([(0 : Int), (0 : Int), (100 : Int), (50000 : Int), (500000 : Int)] : List Int);
 zq2a l2 d (fun (rOne : Int) (mrOne : t1y) =>
 let l3 : List t5y := ([((List.getD l (Int.toNat (List.length b8_ : Int)) ([] : List UInt8)), rOne)] : List t5y);
 cond (decide ((List.length b8_ + List.length l3) * 24 ≤ Q5))
 (let l4 : List t5y := (b8_ ++ l3);
 let l5 : List Int := ([(0 : Int), (7 : Int), (100 : Int)] : List Int);
 zq2a l5 mrOne (fun (rOne2 : Int) (mrOne2 : t1y) =>
 let l6 : List Int := ([rOne2] : List Int);
 cond (decide ((List.length ahead + List.length l6) * 8 ≤ Q5))
 (let l7 : List Int := (ahead ++ l6);
 let i_2 : Int := (IntKind.i64.wrap (i_ - (1 : Int)));
 rec n i_2 mrOne2 l7 b4_ b5_ b6_ b7_ l4 b9_ b10_ b11_)
 none))
 none))
 none)
 (k1 n d ahead b4_ b5_ b6_ b7_ b8_ b9_ b10_ b11_)
def zqp2 (m : Nat) {β : Type} (k1 : zqom β) : zqon β := lp12 (fun r => zqp1 r k1) none m
theorem zqp3 {β : Type} (i : Nat) (k1) : zqp2 (β := β) (i + 1) k1 = zqp1 (zqp2 i k1) k1 := rfl
def zqp4 {β : Type} := hid (zqp2 (β := β) fuel)
noncomputable def zqp5 : Pb := ⟨122, zqoo, fun _ => zqp4, pl (p := zqoo) zqol [] (g := fun i _ => zqp2 i) (by kernel_rfl) rfl (by kernel_rfl) (fun _ _ => rfl) fun _ _ _ _ => by kernel_rfl⟩
def zqp6 {β : Type} (rec : zqoq β) (k1 : zqop β) : zqoq β := fun n i_ d ahead b4_ b5_ b6_ b7_ b8_ b9_ b10_ b11_ =>
 cond (decide ((0 : Int) < i_))
 (zq1s (List.length b8_ : Int) d (fun (rNext : Int) (mrNext : t1y) =>
 zq1s (400 : Int) mrNext (fun (rNext2 : Int) (mrNext2 : t1y) =>
 let t : Int := (IntKind.i64.wrap ((864000 : Int) + rNext2));
 cond (decide (0 ≤ rNext) && decide (rNext < (List.length ahead : Int)))
 (let l : List Int := ([(0 : Int), (3 : Int), (20 : Int)] : List Int);
 zq2a l mrNext2 (fun (rOne : Int) (mrOne : t1y) =>
 let l2 : List Int := ([(0 : Int), (2 : Int), (15 : Int)] : List Int);
 zq2a l2 mrOne (fun (rOne2 : Int) (mrOne2 : t1y) =>
 let l3 : List zqc := ([(rNext, ((IntKind.i64.wrap (t + (List.getD ahead (Int.toNat rNext) (0 : Int)))), ((IntKind.i64.wrap (t - rOne)), (IntKind.i64.wrap (t + rOne2)))))] : List zqc);
 cond (decide ((List.length b9_ + List.length l3) * 32 ≤ Q5))
 (let l4 : List zqc := (b9_ ++ l3);
 let i_2 : Int := (IntKind.i64.wrap (i_ - (1 : Int)));
 rec n i_2 mrOne2 ahead b4_ b5_ b6_ b7_ b8_ l4 b10_ b11_)
 none)))
 none)))
 (k1 n d ahead b4_ b5_ b6_ b7_ b8_ b9_ b10_ b11_)
def zqp7 (m : Nat) {β : Type} (k1 : zqop β) : zqoq β := lp12 (fun r => zqp6 r k1) none m
theorem zqp8 {β : Type} (i : Nat) (k1) : zqp7 (β := β) (i + 1) k1 = zqp6 (zqp7 i k1) k1 := rfl
def zqp9 {β : Type} := hid (zqp7 (β := β) fuel)
noncomputable def zqpa : Pb := ⟨250, zqor, fun _ => zqp9, pl (p := zqor) zqol [] (g := fun i _ => zqp7 i) (by kernel_rfl) rfl (by kernel_rfl) (fun _ _ => rfl) fun _ _ _ _ => by kernel_rfl⟩
def zqpb {β : Type} (rec : zqot β) (k1 : zqos β) : zqot β := fun i_ d ahead times b5_ b6_ b7_ b8_ b9_ b10_ b11_ b12_ =>
 cond (decide ((0 : Int) < i_))
 (zq1s (List.length b9_ : Int) d (fun (rNext : Int) (mrNext : t1y) =>
 zq1s (300 : Int) mrNext (fun (rNext2 : Int) (mrNext2 : t1y) =>
 let t : Int := (IntKind.i64.wrap ((864000 : Int) + rNext2));
 cond (decide (0 ≤ rNext) && decide (rNext < (List.length ahead : Int)))
 (let l : List t7y := ([([117, 112] : List UInt8), ([100, 111, 119, 110] : List UInt8), ([115, 108, 111, 119] : List UInt8)] : List t7y);
 zq1s (3 : Int) mrNext2 (fun (rNext3 : Int) (mrNext3 : t1y) =>
 cond (decide (0 ≤ rNext3) && decide (rNext3 < (List.length l : Int)))
 (let l2 : List zq8 := ([(rNext, ((IntKind.i64.wrap (t + (List.getD ahead (Int.toNat rNext) (0 : Int)))), (List.getD l (Int.toNat rNext3) ([] : List UInt8))))] : List zq8);
 cond (decide ((List.length b11_ + List.length l2) * 32 ≤ Q5))
 (let l3 : List zq8 := (b11_ ++ l2);
 let l4 : List Int := ([t] : List Int);
 cond (decide ((List.length times + List.length l4) * 8 ≤ Q5))
 (let l5 : List Int := (times ++ l4);
 let i_2 : Int := (IntKind.i64.wrap (i_ - (1 : Int)));
 rec i_2 mrNext3 ahead l5 b5_ b6_ b7_ b8_ b9_ b10_ l3 b12_)
 none)
 none)
 none))
 none)))
 (k1 d times b5_ b6_ b7_ b8_ b9_ b10_ b11_ b12_)
def zqpc (m : Nat) {β : Type} (k1 : zqos β) : zqot β := lp12 (fun r => zqpb r k1) none m
theorem zqpd {β : Type} (i : Nat) (k1) : zqpc (β := β) (i + 1) k1 = zqpb (zqpc i k1) k1 := rfl
def zqpe {β : Type} := hid (zqpc (β := β) fuel)
noncomputable def zqpf : Pb := ⟨1018, zqou, fun _ => zqpe, pl (p := zqou) zqol [] (g := fun i _ => zqpc i) (by kernel_rfl) rfl (by kernel_rfl) (fun _ _ => rfl) fun _ _ _ _ => by kernel_rfl⟩
def zqpg {β : Type} (k1 : zqoy β) : zqoz β := fun i_ a b t154 d times b4_ b5_ b6_ b7_ b8_ b9_ b10_ b11_ =>
 cond t154
 (cond (decide (0 ≤ b) && decide (b < (List.length times : Int)))
 (cond (decide (0 ≤ a) && decide (a < (List.length times : Int)))
 (zq1s (IntKind.i64.wrap ((IntKind.i64.wrap ((List.getD times (Int.toNat b) (0 : Int)) - (List.getD times (Int.toNat a) (0 : Int)))) + (1 : Int))) d (fun (rNext : Int) (mrNext : t1y) =>
 let l : List t2y := ([(a, (b, rNext))] : List t2y);
 cond (decide ((List.length b11_ + List.length l) * 24 ≤ Q5))
 (let l2 : List t2y := (b11_ ++ l);
 k1 i_ mrNext times b4_ b5_ b6_ b7_ b8_ b9_ b10_ l2)
 none))
 none)
 none)
 (k1 i_ d times b4_ b5_ b6_ b7_ b8_ b9_ b10_ b11_)
def zqph {β : Type} := hid (zqpg (β := β))
noncomputable def zqpi : Pb := ⟨51, zqp0, fun _ => zqph, pe (p := zqp0) zqol [] 51 (g := fun _ => zqpg) (by kernel_rfl) fun _ _ => by kernel_rfl⟩
def zqpj {β : Type} (rec : zqow β) (k1 : zqov β) : zqow β := fun i_ d times b4_ b5_ b6_ b7_ b8_ b9_ b10_ b11_ =>
 cond (decide ((0 : Int) < i_))
 (cond (decide ((1 : Int) < (List.length times : Int)))
 (zq1s (List.length times : Int) d (fun (rNext : Int) (mrNext : t1y) =>
 zq1s (List.length times : Int) mrNext (fun (rNext2 : Int) (mrNext2 : t1y) =>
 cond (!decide (rNext = rNext2))
 (cond (decide (0 ≤ rNext) && decide (rNext < (List.length times : Int)))
 (cond (decide (0 ≤ rNext2) && decide (rNext2 < (List.length times : Int)))
 (zqph (fun (i_2 : Int) (d2 : t1y) (times2 : List Int) (b4_2 : List t5y) (b5_2 : List zqc) (b6_2 : List zq8) (b7_2 : List t2y) (b8_2 : List t5y) (b9_2 : List zqc) (b10_2 : List zq8) (b11_2 : List t2y) =>
 let i_3 : Int := (IntKind.i64.wrap (i_2 - (1 : Int)));
 rec i_3 d2 times2 b4_2 b5_2 b6_2 b7_2 b8_2 b9_2 b10_2 b11_2) i_ rNext rNext2 (decide ((List.getD times (Int.toNat rNext) (0 : Int)) ≤ (List.getD times (Int.toNat rNext2) (0 : Int)))) mrNext2 times b4_ b5_ b6_ b7_ b8_ b9_ b10_ b11_)
 none)
 none)
 (zqph (fun (i_2 : Int) (d2 : t1y) (times2 : List Int) (b4_2 : List t5y) (b5_2 : List zqc) (b6_2 : List zq8) (b7_2 : List t2y) (b8_2 : List t5y) (b9_2 : List zqc) (b10_2 : List zq8) (b11_2 : List t2y) =>
 let i_3 : Int := (IntKind.i64.wrap (i_2 - (1 : Int)));
 rec i_3 d2 times2 b4_2 b5_2 b6_2 b7_2 b8_2 b9_2 b10_2 b11_2) i_ rNext rNext2 false mrNext2 times b4_ b5_ b6_ b7_ b8_ b9_ b10_ b11_))))
 (k1 d times b4_ b5_ b6_ b7_ b8_ b9_ b10_ b11_))
 (k1 d times b4_ b5_ b6_ b7_ b8_ b9_ b10_ b11_)
def zqpk (m : Nat) {β : Type} (k1 : zqov β) : zqow β := lp11 (fun r => zqpj r k1) none m
theorem zqpl {β : Type} (i : Nat) (k1) : zqpk (β := β) (i + 1) k1 = zqpj (zqpk i k1) k1 := rfl
def zqpm {β : Type} := hid (zqpk (β := β) fuel)
noncomputable def zqpn : Pb := ⟨2042, zqox, fun _ => zqpm, pl (p := zqox) zqol [zqpi] (g := fun i _ => zqpk i) (by kernel_rfl) rfl (by kernel_rfl) (fun _ _ => rfl) fun _ _ _ _ => by kernel_rfl⟩
def zqpo : zqok := fun n d k =>
 zq1s (3 : Int) d (fun (rNext : Int) (mrNext : t1y) =>
 let i_ : Int := (IntKind.i64.wrap ((1 : Int) + rNext));
 zqp4 (fun (n2 : Int) (d2 : t1y) (ahead : List Int) (b4_ : List t5y) (b5_ : List zqc) (b6_ : List zq8) (b7_ : List t2y) (b8_ : List t5y) (b9_ : List zqc) (b10_ : List zq8) (b11_ : List t2y) =>
 zq1s (5 : Int) d2 (fun (rNext2 : Int) (mrNext2 : t1y) =>
 zqp9 (fun (n3 : Int) (d3 : t1y) (ahead2 : List Int) (b4_2 : List t5y) (b5_2 : List zqc) (b6_2 : List zq8) (b7_2 : List t2y) (b8_2 : List t5y) (b9_2 : List zqc) (b10_2 : List zq8) (b11_2 : List t2y) =>
 zq1s (IntKind.i64.wrap (n3 + (1 : Int))) d3 (fun (rNext3 : Int) (mrNext3 : t1y) =>
 zqpe (fun (d4 : t1y) (times : List Int) (b4_3 : List t5y) (b5_3 : List zqc) (b6_3 : List zq8) (b7_3 : List t2y) (b8_3 : List t5y) (b9_3 : List zqc) (b10_3 : List zq8) (b11_3 : List t2y) =>
 zq1s (4 : Int) d4 (fun (rNext4 : Int) (mrNext4 : t1y) =>
 zqpm (fun (b0_ : t1y) (times2 : List Int) (b4_4 : List t5y) (b5_4 : List zqc) (b6_4 : List zq8) (b7_4 : List t2y) (b8_4 : List t5y) (b9_4 : List zqc) (b10_4 : List zq8) (b11_4 : List t2y) =>
 k (b8_4, (b9_4, (b10_4, b11_4))) b0_ times2) rNext4 mrNext4 times b4_3 b5_3 b6_3 b7_3 b8_3 b9_3 b10_3 b11_3)) rNext3 mrNext3 ahead2 ([] : List Int) b4_2 b5_2 b6_2 b7_2 b8_2 b9_2 b10_2 b11_2)) n2 rNext2 mrNext2 ahead b4_ b5_ b6_ b7_ b8_ b9_ b10_ b11_)) n i_ mrNext ([] : List Int) ([] : List t5y) ([] : List zqc) ([] : List zq8) ([] : List t2y) ([] : List t5y) ([] : List zqc) ([] : List zq8) ([] : List t2y))
def zqpp : zqok := hid zqpo
noncomputable def zqpq : En := ⟨14, .spec (sg [b29y, b27y] [b28y] [b49y, b45y] [b28y, .row 3 (.int .i64)] zqpp), pf zqol [zqp5, zqpa, zqpf, zqpn] [.cell 4 68, .tmp 5] Tryz.func14 (by kernel_rfl) fun _ _ => by kernel_rfl⟩
abbrev zqpr := {β : Type} → zqo → t1y → (zqo → t1y → Option β) → Option β
noncomputable def zqps : List En := [zq1t, zq2b]
abbrev zqpt (β : Type) := t1y → zqo → t23y → t13y → t11y → t9y → Option β
abbrev zqpu (β : Type) := Bool → t1y → zqo → t23y → t13y → t11y → t9y → Option β
noncomputable def zqpv : Pc := ⟨82, 1, Q1 7551 (Q2 Tryz.f15), ⟨1, [0, 4, 5, 64], [b29y, b34y, b37y, b30y], [b28y, b39y, .cells 68 [.rowh 3, .rowh 4, .rowh 5, .rowh 6], .row 148 (.prod .str (.int .i64)), .row 150 zqd, .row 152 zq9, .row 154 (.prod (.int .i64) (.prod (.int .i64) (.int .i64)))]⟩, [(.normal, ⟨1, [4, 5], [b34y, b37y], [b28y, b39y, .cells 68 [.rowh 3, .rowh 4, .rowh 5, .rowh 6], .row 148 (.prod .str (.int .i64)), .row 150 zqd, .row 152 zq9, .row 154 (.prod (.int .i64) (.prod (.int .i64) (.int .i64)))]⟩)]⟩
def zqpw {β : Type} (k1 : zqpt β) : zqpu β := fun t64 d t4 b3_ b4_ b5_ b6_ =>
 cond t64
 (zq1s (5 : Int) d (fun (rNext : Int) (mrNext : t1y) =>
 zq1s (5 : Int) mrNext (fun (rNext2 : Int) (mrNext2 : t1y) =>
 let l : List Int := ([(-1 : Int), (0 : Int), (1 : Int), (100 : Int), (400 : Int)] : List Int);
 zq2a l mrNext2 (fun (rOne : Int) (mrOne : t1y) =>
 let l2 : List t2y := ([((IntKind.i64.wrap (rNext - (1 : Int))), (rNext2, rOne))] : List t2y);
 cond (decide ((List.length b6_ + List.length l2) * 24 ≤ Q5))
 (let l3 : List t2y := (b6_ ++ l2);
 k1 mrOne t4 b3_ b4_ b5_ l3)
 none))))
 (k1 d t4 b3_ b4_ b5_ b6_)
def zqpx {β : Type} := hid (zqpw (β := β))
noncomputable def zqpy : Pb := ⟨7551, zqpv, fun _ => zqpx, pe (p := zqpv) zqps [] 7551 (g := fun _ => zqpw) (by kernel_rfl) fun _ _ => by kernel_rfl⟩
def zqpz : zqpr := fun r_ d k =>
 cond (decide (List.length r_.1 * 24 ≤ Q5))
 (cond (decide (List.length r_.2.1 * 32 ≤ Q5))
 (cond (decide (List.length r_.2.2.1 * 32 ≤ Q5))
 (cond (decide (List.length r_.2.2.2 * 24 ≤ Q5))
 (zq1s (7 : Int) d (fun (rNext : Int) (mrNext : t1y) =>
 let t : Bool := (decide (rNext = (0 : Int)));
 cond t
 (let l : List Int := ([(-1 : Int), (500001 : Int)] : List Int);
 zq2a l mrNext (fun (rOne : Int) (mrOne : t1y) =>
 cond (decide (0 ≤ (0 : Int)) && decide ((0 : Int) < (List.length r_.1 : Int)))
 (let l2 : List t5y := (List.set r_.1 (Int.toNat (0 : Int)) ((List.getD r_.1 (Int.toNat (0 : Int)) (([] : List UInt8), (0 : Int))).1, rOne));
 k (l2, r_.2) mrOne)
 none))
 (let t2 : Bool := (decide (rNext = (1 : Int)));
 cond t2
 (zq1s (4 : Int) mrNext (fun (rNext2 : Int) (mrNext2 : t1y) =>
 zq1s (300 : Int) mrNext2 (fun (rNext3 : Int) (mrNext3 : t1y) =>
 zq1s (300 : Int) mrNext3 (fun (rNext4 : Int) (mrNext4 : t1y) =>
 zq1s (300 : Int) mrNext4 (fun (rNext5 : Int) (mrNext5 : t1y) =>
 let l : List zqc := ([((IntKind.i64.wrap (rNext2 - (1 : Int))), ((IntKind.i64.wrap ((864000 : Int) + rNext3)), ((IntKind.i64.wrap ((864000 : Int) + rNext4)), (IntKind.i64.wrap ((864000 : Int) + rNext5)))))] : List zqc);
 cond (decide ((List.length r_.2.1 + List.length l) * 32 ≤ Q5))
 (let l2 : List zqc := (r_.2.1 ++ l);
 k (r_.1, (l2, r_.2.2)) mrNext5)
 none)))))
 (let t3 : Bool := (decide (rNext = (2 : Int)));
 cond t3
 (zq1s (4 : Int) mrNext (fun (rNext2 : Int) (mrNext2 : t1y) =>
 let l : List Int := ([(-1 : Int), (0 : Int), (864000 : Int), (8589934592 : Int), (8589934593 : Int)] : List Int);
 zq2a l mrNext2 (fun (rOne : Int) (mrOne : t1y) =>
 let l2 : List zq8 := ([((IntKind.i64.wrap (rNext2 - (1 : Int))), (rOne, ([] : List UInt8)))] : List zq8);
 cond (decide ((List.length r_.2.2.1 + List.length l2) * 32 ≤ Q5))
 (let l3 : List zq8 := (r_.2.2.1 ++ l2);
 k (r_.1, (r_.2.1, (l3, r_.2.2.2))) mrOne)
 none)))
 (let t4 : Bool := (decide (rNext = (3 : Int)));
 cond t4
 (zqpx (fun (b0_ : t1y) (t42 : zqo) (b3_ : List t5y) (b4_ : List zqc) (b5_ : List zq8) (b6_ : List t2y) =>
 k (b3_, (b4_, (b5_, b6_))) b0_) t4 mrNext zq1d r_.1 r_.2.1 r_.2.2.1 r_.2.2.2)
 (let t5 : Bool := (decide (rNext = (4 : Int)));
 zqpx (fun (b0_ : t1y) (t42 : zqo) (b3_ : List t5y) (b4_ : List zqc) (b5_ : List zq8) (b6_ : List t2y) =>
 k (b3_, (b4_, (b5_, b6_))) b0_) t5 mrNext zq1d r_.1 r_.2.1 r_.2.2.1 r_.2.2.2))))))
 none)
 none)
 none)
 none
def zqq0 : zqpr := hid zqpz
noncomputable def zqq1 : En := ⟨15, .spec (sg [b29y, b49y] [b28y] [b49y] [b28y] zqq0), pf zqps [zqpy] [.cell 4 68] Tryz.func15 (by kernel_rfl) fun _ _ => by kernel_rfl⟩
abbrev zqq2 := {β : Type} → zq4 → Int → Int → Int → (zqy → Int → Option β) → Option β
def zqq3 : zqq2 := fun b id pol start k =>
 zq56 id (1 : Int) (999999 : Int) (fun (rIn : Bool) =>
 cond (!rIn)
 (k zq1g (1 : Int))
 (zq56 start (0 : Int) (8589934592 : Int) (fun (rIn2 : Bool) =>
 cond (!rIn2)
 (k zq1g (1 : Int))
 (zq56 pol (0 : Int) (IntKind.i64.wrap ((List.length b.2 : Int) - (1 : Int))) (fun (rIn3 : Bool) =>
 cond (!rIn3)
 (k zq1g (3 : Int))
 (k (id, (pol, (start, ((0 : Int), (start, ((0 : Int), ((-1 : Int), ((0 : Int), (start, ((0 : Int), ((0 : Int), (([] : List t4y), (([] : List Int), ([] : List Int)))))))))))))) (0 : Int)))))))
def zqq4 : zqq2 := hid zqq3
noncomputable def zqq5 : En := ⟨38, .spec (sg [b79y, b27y, b27y, b27y] [] [b58y, b27y] [] zqq4), pf [zq57] [] [.cell 8 52, .tmp 9] Tryz.func38 (by kernel_rfl) fun _ _ => by kernel_rfl⟩
abbrev zqq6 := {β : Type} → t3y → Int → (Bool → Option β) → Option β
def zqq7 : zqq6 := fun s v k =>
 zqau s v (fun (rIndexintint : Int) =>
 let t : Bool := (decide ((0 : Int) ≤ rIndexintint));
 k t)
def zqq8 : zqq6 := hid zqq7
noncomputable def zqq9 : En := ⟨44, .spec (sg [b42y, b27y] [] [b30y] [] zqq8), pf [zqav] [] [.tmp 4] Tryz.func44 (by kernel_rfl) fun _ _ => by kernel_rfl⟩
abbrev zqqa := {β : Type} → zqw → (Bool → Option β) → Option β
noncomputable def zqqb : List En := [zq57, zqbc, zq6v, zqc8, zq5n, zqaz]
abbrev zqqc (β : Type) := Bool → Option β
abbrev zqqd (β : Type) := zqw → Option β
abbrev zqqe (β : Type) := Int → zqw → Option β
noncomputable def zqqf : Pc := ⟨124, 0, Q1 58 (Q2 Tryz.f46), ⟨0, [1, 3], [b29y, b27y], [b32y]⟩, [(.ret, ⟨0, [2], [b30y], []⟩), (.exit 0, ⟨0, [1], [b29y], [b32y]⟩)]⟩
abbrev zqqg (β : Type) := Bool → Option β
abbrev zqqh (β : Type) := zqw → Option β
abbrev zqqi (β : Type) := Int → zqw → Option β
noncomputable def zqqj : Pc := ⟨124, 0, Q1 122 (Q2 Tryz.f46), ⟨0, [1, 4], [b29y, b27y], [b32y]⟩, [(.ret, ⟨0, [2], [b30y], []⟩), (.exit 2, ⟨0, [1], [b29y], [b32y]⟩)]⟩
def zqqk {β : Type} (rec : zqqe β) (k1 : zqqc β) (k2 : zqqd β) : zqqe β := fun i_ x =>
 cond (decide (i_ < (3 : Int)))
 (cond (decide (i_ = (0 : Int)))
 (zq5m x.2.2.2.2.2.1.1 true (fun (rperson : Bool) =>
 cond (!rperson)
 (k1 false)
 (let i_2 : Int := (IntKind.i64.wrap (i_ + (1 : Int)));
 rec i_2 x)))
 (cond (decide (i_ = (1 : Int)))
 (zq5m x.2.2.2.2.2.1.2.1 true (fun (rperson : Bool) =>
 cond (!rperson)
 (k1 false)
 (let i_2 : Int := (IntKind.i64.wrap (i_ + (1 : Int)));
 rec i_2 x)))
 (cond (decide (i_ = (2 : Int)))
 (zq5m x.2.2.2.2.2.1.2.2 true (fun (rperson : Bool) =>
 cond (!rperson)
 (k1 false)
 (let i_2 : Int := (IntKind.i64.wrap (i_ + (1 : Int)));
 rec i_2 x)))
 (none))))
 (k2 x)
def zqql (m : Nat) {β : Type} (k1 : zqqc β) (k2 : zqqd β) : zqqe β := lp2 (fun r => zqqk r k1 k2) none m
theorem zqqm {β : Type} (i : Nat) (k1 k2) : zqql (β := β) (i + 1) k1 k2 = zqqk (zqql i k1 k2) k1 k2 := rfl
def zqqn {β : Type} := hid (zqql (β := β) fuel)
noncomputable def zqqo : Pb := ⟨58, zqqf, fun _ => zqqn, pl (p := zqqf) zqqb [] (g := fun i _ => zqql i) (by kernel_rfl) rfl (by kernel_rfl) (fun _ _ => rfl) fun _ _ _ _ => by kernel_rfl⟩
def zqqp {β : Type} (rec : zqqi β) (k1 : zqqg β) (k2 : zqqh β) : zqqi β := fun i_ x =>
 cond (decide (i_ < (List.length x.2.2.2.2.2.2.1 : Int)))
 (cond (decide (0 ≤ i_) && decide (i_ < (List.length x.2.2.2.2.2.2.1 : Int)))
 (let e : Int := List.getD x.2.2.2.2.2.2.1 (Int.toNat i_) (0 : Int);
 zq56 e (1 : Int) (999999 : Int) (fun (rIn : Bool) =>
 cond (!rIn)
 (k1 false)
 (cond (decide ((0 : Int) < i_))
 (cond (decide (0 ≤ (IntKind.i64.wrap (i_ - (1 : Int)))) && decide ((IntKind.i64.wrap (i_ - (1 : Int))) < (List.length x.2.2.2.2.2.2.1 : Int)))
 (let e2 : Int := List.getD x.2.2.2.2.2.2.1 (Int.toNat (IntKind.i64.wrap (i_ - (1 : Int)))) (0 : Int);
 cond (decide (0 ≤ i_) && decide (i_ < (List.length x.2.2.2.2.2.2.1 : Int)))
 (let e3 : Int := List.getD x.2.2.2.2.2.2.1 (Int.toNat i_) (0 : Int);
 cond (decide (e3 ≤ e2))
 (k1 false)
 (let i_2 : Int := (IntKind.i64.wrap (i_ + (1 : Int)));
 rec i_2 x))
 none)
 none)
 (let i_2 : Int := (IntKind.i64.wrap (i_ + (1 : Int)));
 rec i_2 x))))
 none)
 (k2 x)
def zqqq (m : Nat) {β : Type} (k1 : zqqg β) (k2 : zqqh β) : zqqi β := lp2 (fun r => zqqp r k1 k2) none m
theorem zqqr {β : Type} (i : Nat) (k1 k2) : zqqq (β := β) (i + 1) k1 k2 = zqqp (zqqq i k1 k2) k1 k2 := rfl
def zqqs {β : Type} := hid (zqqq (β := β) fuel)
noncomputable def zqqt : Pb := ⟨122, zqqj, fun _ => zqqs, pl (p := zqqj) zqqb [] (g := fun i _ => zqqq i) (by kernel_rfl) rfl (by kernel_rfl) (fun _ _ => rfl) fun _ _ _ _ => by kernel_rfl⟩
def zqqu : zqqa := fun x k =>
 zq56 x.1 (1 : Int) (999999 : Int) (fun (rIn : Bool) =>
 cond (!rIn)
 (k false)
 (zqay x.2.1 (fun (rstate : Bool) =>
 cond (!rstate)
 (k false)
 (zq56 x.2.2.1 (1 : Int) (5 : Int) (fun (rIn2 : Bool) =>
 cond (!rIn2)
 (k false)
 (zq56 x.2.2.2.1 (0 : Int) (8589934592 : Int) (fun (rIn3 : Bool) =>
 cond (!rIn3)
 (k false)
 (zq6u x.2.2.2.2.1 (fun (rText : Bool) =>
 cond (!rText)
 (k false)
 (zqqn (fun (t2 : Bool) =>
 k t2) (fun (x2 : zqw) =>
 zqqs (fun (t2 : Bool) =>
 k t2) (fun (x3 : zqw) =>
 cond (decide ((64 : Int) < (List.length x3.2.2.2.2.2.2.1 : Int)))
 (k false)
 (cond (decide ((16 : Int) < (List.length x3.2.2.2.2.2.2.2.1 : Int)))
 (k false)
 (cond (decide ((32 : Int) < (List.length x3.2.2.2.2.2.2.2.2.1 : Int)))
 (k false)
 (cond (decide ((32 : Int) < (List.length x3.2.2.2.2.2.2.2.2.2.2.1 : Int)))
 (k false)
 (zqbb x3.2.2.2.2.2.2.2.2.2.1 (32 : Int) (fun (rSet : Bool) =>
 cond (!rSet)
 (k false)
 (zqc7 x3 (fun (rlists : Bool) =>
 cond (!rlists)
 (k false)
 (cond (decide (x3.2.1 = (4 : Int)))
 (zq56 x3.2.2.2.2.2.2.2.2.2.2.2 (1 : Int) (999999 : Int) (fun (rIn4 : Bool) =>
 cond rIn4
 (let t : Bool := (!decide (x3.2.2.2.2.2.2.2.2.2.2.2 = x3.1));
 k t)
 (k false)))
 (let t : Bool := (decide (x3.2.2.2.2.2.2.2.2.2.2.2 = (0 : Int)));
 k t)))))))))) (0 : Int) x2) (0 : Int) x))))))))))
def zqqv : zqqa := hid zqqu
noncomputable def zqqw : En := ⟨46, .spec (sg [b43y] [] [b30y] [] zqqv), pf zqqb [zqqo, zqqt] [.tmp 2] Tryz.func46 (by kernel_rfl) fun _ _ => by kernel_rfl⟩
abbrev zqqx := {β : Type} → t10y → (Int → Option β) → Option β
noncomputable def zqqy : List En := [zq57]
abbrev zqqz (β : Type) := Int → Option β
abbrev zqr0 (β : Type) := Unit → Option β
abbrev zqr1 (β : Type) := t10y → Int → Option β
noncomputable def zqr2 : Pc := ⟨33, 0, Q1 58 (Q2 Tryz.f56), ⟨0, [0, 3], [b31y, b27y], []⟩, [(.ret, ⟨0, [2], [b27y], []⟩), (.exit 0, ⟨0, [], [], []⟩)]⟩
def zqr3 {β : Type} (rec : zqr1 β) (k1 : zqqz β) (k2 : zqr0 β) : zqr1 β := fun l i_ =>
 cond (decide (i_ < (List.length l : Int)))
 (cond (decide (0 ≤ i_) && decide (i_ < (List.length l : Int)))
 (let e : t0y := List.getD l (Int.toNat i_) ((0 : Int), (0 : Int));
 cond (decide (0 ≤ i_) && decide (i_ < (List.length l : Int)))
 (let e2 : t0y := List.getD l (Int.toNat i_) ((0 : Int), (0 : Int));
 zq56 e.1 (0 : Int) e2.2 (fun (rIn : Bool) =>
 cond (!rIn)
 (k1 (8 : Int))
 (cond (decide (0 ≤ i_) && decide (i_ < (List.length l : Int)))
 (let e3 : t0y := List.getD l (Int.toNat i_) ((0 : Int), (0 : Int));
 cond (decide ((1099511627776 : Int) < e3.2))
 (k1 (8 : Int))
 (let i_2 : Int := (IntKind.i64.wrap (i_ + (1 : Int)));
 rec l i_2))
 none)))
 none)
 none)
 (k2 ())
def zqr4 (m : Nat) {β : Type} (k1 : zqqz β) (k2 : zqr0 β) : zqr1 β := lp2 (fun r => zqr3 r k1 k2) none m
theorem zqr5 {β : Type} (i : Nat) (k1 k2) : zqr4 (β := β) (i + 1) k1 k2 = zqr3 (zqr4 i k1 k2) k1 k2 := rfl
def zqr6 {β : Type} := hid (zqr4 (β := β) fuel)
noncomputable def zqr7 : Pb := ⟨58, zqr2, fun _ => zqr6, pl (p := zqr2) zqqy [] (g := fun i _ => zqr4 i) (by kernel_rfl) rfl (by kernel_rfl) (fun _ _ => rfl) fun _ _ _ _ => by kernel_rfl⟩
def zqr8 : zqqx := fun l k =>
 cond (decide ((256 : Int) < (List.length l : Int)))
 (k (5 : Int))
 (zqr6 (fun (t2 : Int) =>
 k t2) (fun (_ : Unit) =>
 k (0 : Int)) l (0 : Int))
def zqr9 : zqqx := hid zqr8
noncomputable def zqra : En := ⟨56, .spec (sg [b31y] [] [b27y] [] zqr9), pf zqqy [zqr7] [.tmp 2] Tryz.func56 (by kernel_rfl) fun _ _ => by kernel_rfl⟩
abbrev zqrb := {β : Type} → Int → Int → (t0y → Int → Option β) → Option β
def zqrc : zqrb := fun num den k =>
 cond (decide (den < (1 : Int)))
 (k ((0 : Int), (0 : Int)) (1 : Int))
 (cond (decide ((4611686018427387904 : Int) < den))
 (k ((0 : Int), (0 : Int)) (1 : Int))
 (zqcf num (fun (rwithin : Bool) =>
 cond (!rwithin)
 (k ((0 : Int), (0 : Int)) (1 : Int))
 (zqcv num (fun (rsize : Int) =>
 zqcr rsize den (fun (rgcd : Int) =>
 cond (!decide (rgcd = 0))
 (cond (!decide (rgcd = 0))
 (k ((IntKind.i64.wrap (Int.tdiv num rgcd)), (IntKind.i64.wrap (Int.tdiv den rgcd))) (0 : Int))
 none)
 none))))))
def zqrd : zqrb := hid zqrc
noncomputable def zqre : En := ⟨57, .spec (sg [b27y, b27y] [] [b35y, b27y] [] zqrd), pf [zqcs, zqcw, zqcg] [] [.cell 4 83, .tmp 5] Tryz.func57 (by kernel_rfl) fun _ _ => by kernel_rfl⟩
abbrev zqrf := {β : Type} → Int → Int → (t0y → Int → Option β) → Option β
def zqrg : zqrf := fun num den k =>
 zqcz num (fun (rin : Bool) =>
 cond (!rin)
 (k ((0 : Int), (0 : Int)) (1 : Int))
 (cond (decide (den < (1 : Int)))
 (k ((0 : Int), (0 : Int)) (1 : Int))
 (cond (decide ((4611686018427387904 : Int) < den))
 (k ((0 : Int), (0 : Int)) (1 : Int))
 (zqdf num (fun (rsize : Int) =>
 zqdb rsize den (fun (rgcd : Int) =>
 cond (!decide (rgcd = 0))
 (cond (!decide (rgcd = 0))
 (k ((IntKind.i64.wrap (Int.tdiv num rgcd)), (IntKind.i64.wrap (Int.tdiv den rgcd))) (0 : Int))
 none)
 none))))))
def zqrh : zqrf := hid zqrg
noncomputable def zqri : En := ⟨58, .spec (sg [b27y, b27y] [] [b35y, b27y] [] zqrh), pf [zqdc, zqd0, zqdg] [] [.cell 4 83, .tmp 5] Tryz.func58 (by kernel_rfl) fun _ _ => by kernel_rfl⟩
abbrev zqrj := {β : Type} → t10y → ((List Int × List Int) → Option β) → Option β
def zqrk : zqrj := fun l k =>
 zqdr l (fun (lrsplit : List Int) (lrsplit2 : List Int) =>
 cond (decide (List.length lrsplit < 4611686018427387904))
 (let l2 : List Int := (Qh lrsplit);
 cond (decide (List.length lrsplit2 < 4611686018427387904))
 (let l3 : List Int := (Qh lrsplit2);
 k (l2, l3))
 none)
 none)
def zqrl : zqrj := hid zqrk
noncomputable def zqrm : En := ⟨60, .spec (sg [b31y] [] [(true, [.data (.prod (.slice (.int .i64)) (.slice (.int .i64)))])] [] zqrl), pf [zqds, zqdx] [] [.cell 2 166] Tryz.func60 (by kernel_rfl) fun _ _ => by kernel_rfl⟩
abbrev zqrn := {β : Type} → zqw → (Int → Option β) → Option β
def zqro : zqrn := fun x k =>
 zqqv x (fun (rCheck : Bool) =>
 cond (!rCheck)
 (k (8 : Int))
 (cond (decide (x.2.1 = (3 : Int)))
 (k (9 : Int))
 (let t : Bool := (decide (x.2.1 = (4 : Int)));
 cond t
 (k (9 : Int))
 (k (0 : Int)))))
def zqrp : zqrn := hid zqro
noncomputable def zqrq : En := ⟨63, .spec (sg [b43y] [] [b27y] [] zqrp), pf [zqqw] [] [.tmp 2] Tryz.func63 (by kernel_rfl) fun _ _ => by kernel_rfl⟩
abbrev zqrr := {β : Type} → zq4 → zqy → (Bool → Option β) → Option β
noncomputable def zqrs : List En := [zqef, zq4j, zq57, zqbc, zqeb, zqq5, zqez]
abbrev zqrt (β : Type) := Bool → Option β
abbrev zqru (β : Type) := Unit → Option β
abbrev zqrv (β : Type) := Int → zqy → Option β
noncomputable def zqrw : Pc := ⟨118, 0, Q1 250 (Q2 Tryz.f71), ⟨0, [3, 7], [b29y, b27y], [b38y]⟩, [(.ret, ⟨0, [4], [b30y], []⟩), (.exit 0, ⟨0, [], [], []⟩)]⟩
def zqrx {β : Type} (rec : zqrv β) (k1 : zqrt β) (k2 : zqru β) : zqrv β := fun i_ p_ =>
 cond (decide (i_ < (List.length p_.2.2.2.2.2.2.2.2.2.2.2.2.2 : Int)))
 (cond (decide (0 ≤ (0 : Int)) && (decide ((0 : Int) ≤ i_) && decide (i_ ≤ (List.length p_.2.2.2.2.2.2.2.2.2.2.2.2.2 : Int))))
 (cond (decide (0 ≤ i_) && decide (i_ < (List.length p_.2.2.2.2.2.2.2.2.2.2.2.2.2 : Int)))
 (let e : Int := List.getD p_.2.2.2.2.2.2.2.2.2.2.2.2.2 (Int.toNat i_) (0 : Int);
 zq4i (List.drop (Int.toNat (0 : Int)) (List.take (Int.toNat i_) p_.2.2.2.2.2.2.2.2.2.2.2.2.2)) e (fun (rHas : Bool) =>
 cond rHas
 (k1 false)
 (let i_2 : Int := (IntKind.i64.wrap (i_ + (1 : Int)));
 rec i_2 p_)))
 none)
 none)
 (k2 ())
def zqry (m : Nat) {β : Type} (k1 : zqrt β) (k2 : zqru β) : zqrv β := lp2 (fun r => zqrx r k1 k2) none m
theorem zqrz {β : Type} (i : Nat) (k1 k2) : zqry (β := β) (i + 1) k1 k2 = zqrx (zqry i k1 k2) k1 k2 := rfl
def zqs0 {β : Type} := hid (zqry (β := β) fuel)
noncomputable def zqs1 : Pb := ⟨250, zqrw, fun _ => zqs0, pl (p := zqrw) zqrs [] (g := fun i _ => zqry i) (by kernel_rfl) rfl (by kernel_rfl) (fun _ _ => rfl) fun _ _ _ _ => by kernel_rfl⟩
def zqs2 : zqrr := fun b p_ k =>
 zqq4 b p_.1 p_.2.1 p_.2.2.1 (fun (rNew : zqy) (rNew2 : Int) =>
 cond (!decide (rNew2 = (0 : Int)))
 (k false)
 (cond (decide (0 ≤ p_.2.1) && decide (p_.2.1 < (List.length b.2 : Int)))
 (let e : zq2 := List.getD b.2 (Int.toNat p_.2.1) (([] : List UInt8), (([] : List zq0), (0 : Int)));
 zqea e (fun (rWaits : Bool) =>
 cond (!rWaits)
 (k false)
 (cond (decide (0 ≤ p_.2.1) && decide (p_.2.1 < (List.length b.2 : Int)))
 (let e2 : zq2 := List.getD b.2 (Int.toNat p_.2.1) (([] : List UInt8), (([] : List zq0), (0 : Int)));
 zqee e2 (fun (rCount : Int) =>
 zq56 p_.2.2.2.1 (0 : Int) rCount (fun (rIn : Bool) =>
 cond (!rIn)
 (k false)
 (zq56 p_.2.2.2.2.2.1 (0 : Int) (4 : Int) (fun (rIn2 : Bool) =>
 cond (!rIn2)
 (k false)
 (zq56 p_.2.2.2.2.2.2.1 (-1 : Int) (31 : Int) (fun (rIn3 : Bool) =>
 cond (!rIn3)
 (k false)
 (zq56 p_.2.2.2.2.2.2.2.2.1 p_.2.2.1 (17179869184 : Int) (fun (rIn4 : Bool) =>
 cond (!rIn4)
 (k false)
 (zq56 p_.2.2.2.2.1 (0 : Int) (17179869184 : Int) (fun (rIn5 : Bool) =>
 cond (!rIn5)
 (k false)
 (zq56 p_.2.2.2.2.2.2.2.1 (0 : Int) (17179869184 : Int) (fun (rIn6 : Bool) =>
 cond (!rIn6)
 (k false)
 (zq56 p_.2.2.2.2.2.2.2.2.2.1 (0 : Int) (4 : Int) (fun (rIn7 : Bool) =>
 cond (!rIn7)
 (k false)
 (zq56 p_.2.2.2.2.2.2.2.2.2.2.1 (0 : Int) (4 : Int) (fun (rIn8 : Bool) =>
 cond (!rIn8)
 (k false)
 (zqey p_ (fun (rstarts : Bool) =>
 cond (!rstarts)
 (k false)
 (zqbb p_.2.2.2.2.2.2.2.2.2.2.2.2.1 (32 : Int) (fun (rSet : Bool) =>
 cond (!rSet)
 (k false)
 (cond (decide ((64 : Int) < (List.length p_.2.2.2.2.2.2.2.2.2.2.2.2.2 : Int)))
 (k false)
 (zqs0 (fun (t4 : Bool) =>
 k t4) (fun (_ : Unit) =>
 k true) (0 : Int) p_)))))))))))))))))))))))
 none)))
 none))
def zqs3 : zqrr := hid zqs2
noncomputable def zqs4 : En := ⟨71, .spec (sg [b79y, b58y] [] [b30y] [] zqs3), pf zqrs [zqs1] [.tmp 4] Tryz.func71 (by kernel_rfl) fun _ _ => by kernel_rfl⟩
abbrev zqs5 := {β : Type} → Int → (Bool → Option β) → Option β
def zqs6 : zqs5 := fun n k =>
 zq97 n (1 : Int) (999999 : Int) (fun (rin : Bool) =>
 k rin)
def zqs7 : zqs5 := hid zqs6
noncomputable def zqs8 : En := ⟨78, .spec (sg [b27y] [] [b30y] [] zqs7), pf [zq98] [] [.tmp 2] Tryz.func78 (by kernel_rfl) fun _ _ => by kernel_rfl⟩
abbrev zqs9 := {β : Type} → Int → (Bool → Option β) → Option β
def zqsa : zqs9 := fun n k =>
 cond (decide (n = (-1 : Int)))
 (k true)
 (zqf6 n (fun (rperson : Bool) =>
 k rperson))
def zqsb : zqs9 := hid zqsa
noncomputable def zqsc : En := ⟨81, .spec (sg [b27y] [] [b30y] [] zqsb), pf [zqf7] [] [.tmp 2] Tryz.func81 (by kernel_rfl) fun _ _ => by kernel_rfl⟩
abbrev zqsd := {β : Type} → zqw → (Bool → Option β) → Option β
noncomputable def zqse : List En := [zq9m, zq98, zqsc]
abbrev zqsf (β : Type) := Bool → Option β
abbrev zqsg (β : Type) := zqw → Option β
abbrev zqsh (β : Type) := t25y → Int → Int → zqw → Option β
noncomputable def zqsi : Pc := ⟨48, 0, Q1 26 (Q2 Tryz.f84), ⟨0, [1, 6, 7, 8], [b29y, (false, [.data (.slice zqr)]), b27y, b27y], [b32y]⟩, [(.ret, ⟨0, [2], [b30y], []⟩), (.exit 0, ⟨0, [1], [b29y], [b32y]⟩)]⟩
def zqsj {β : Type} (rec : zqsh β) (k1 : zqsf β) (k2 : zqsg β) : zqsh β := fun t6 t7 t8 x =>
 cond (decide (t8 < t7))
 (cond (decide (0 ≤ t8) && decide (t8 < (List.length t6 : Int)))
 (let e : zqq := List.getD t6 (Int.toNat t8) (([] : List UInt8), ((0 : Int), ((0 : Int), (0 : Int))));
 zq9l e.1 (fun (rText : Bool) =>
 cond (!rText)
 (k1 false)
 (zqsb e.2.1 (fun (rsomebody : Bool) =>
 cond (!rsomebody)
 (k1 false)
 (zq97 e.2.2.1 x.2.2.2.1 (8589934592 : Int) (fun (rin : Bool) =>
 cond (!rin)
 (k1 false)
 (cond (!decide (e.2.2.2 = (-1 : Int)))
 (zq97 e.2.2.2 e.2.2.1 (8589934592 : Int) (fun (rin2 : Bool) =>
 cond (!rin2)
 (k1 false)
 (rec t6 t7 (IntKind.i64.wrap (t8 + (1 : Int))) x)))
 (rec t6 t7 (IntKind.i64.wrap (t8 + (1 : Int))) x))))))))
 none)
 (k2 x)
def zqsk (m : Nat) {β : Type} (k1 : zqsf β) (k2 : zqsg β) : zqsh β := lp4 (fun r => zqsj r k1 k2) none m
theorem zqsl {β : Type} (i : Nat) (k1 k2) : zqsk (β := β) (i + 1) k1 k2 = zqsj (zqsk i k1 k2) k1 k2 := rfl
def zqsm {β : Type} := hid (zqsk (β := β) fuel)
noncomputable def zqsn : Pb := ⟨26, zqsi, fun _ => zqsm, pl (p := zqsi) zqse [] (g := fun i _ => zqsk i) (by kernel_rfl) rfl (by kernel_rfl) (fun _ _ => rfl) fun _ _ _ _ => by kernel_rfl⟩
def zqso : zqsd := fun x k =>
 zqsm (fun (t2 : Bool) =>
 k t2) (fun (x2 : zqw) =>
 let t : Bool := (decide ((List.length x2.2.2.2.2.2.2.2.1 : Int) ≤ (16 : Int)));
 k t) x.2.2.2.2.2.2.2.1 (List.length x.2.2.2.2.2.2.2.1 : Int) (0 : Int) x
def zqsp : zqsd := hid zqso
noncomputable def zqsq : En := ⟨84, .spec (sg [b43y] [] [b30y] [] zqsp), pf zqse [zqsn] [.tmp 2] Tryz.func84 (by kernel_rfl) fun _ _ => by kernel_rfl⟩
abbrev zqsr := {β : Type} → zqw → (Bool → Option β) → Option β
noncomputable def zqss : List En := [zq98, zqsc]
abbrev zqst (β : Type) := Bool → Option β
abbrev zqsu (β : Type) := Int → zqw → Option β
abbrev zqsv (β : Type) := Int → Int → t9y → Int → Int → zqw → Option β
noncomputable def zqsw : Pc := ⟨54, 0, Q1 58 (Q2 Tryz.f86), ⟨0, [1, 3, 4, 10, 11, 12], [b29y, b27y, b27y, b33y, b27y, b27y], [b32y]⟩, [(.ret, ⟨0, [2], [b30y], []⟩), (.exit 0, ⟨0, [1, 4], [b29y, b27y], [b32y]⟩)]⟩
def zqsx {β : Type} (rec : zqsv β) (k1 : zqst β) (k2 : zqsu β) : zqsv β := fun at_ state t10 t11 t12 x =>
 cond (decide (t12 < t11))
 (cond (decide (0 ≤ t12) && decide (t12 < (List.length t10 : Int)))
 (let e : t2y := List.getD t10 (Int.toNat t12) ((0 : Int), ((0 : Int), (0 : Int)));
 zq97 e.1 at_ (8589934592 : Int) (fun (rin : Bool) =>
 cond (!rin)
 (k1 false)
 (zq97 e.2.1 (0 : Int) (4 : Int) (fun (rin2 : Bool) =>
 cond (!rin2)
 (k1 false)
 (cond (decide (e.2.1 = state))
 (k1 false)
 (zqsb e.2.2 (fun (rsomebody : Bool) =>
 cond (!rsomebody)
 (k1 false)
 (rec e.1 e.2.1 t10 t11 (IntKind.i64.wrap (t12 + (1 : Int))) x))))))))
 none)
 (k2 state x)
def zqsy (m : Nat) {β : Type} (k1 : zqst β) (k2 : zqsu β) : zqsv β := lp6 (fun r => zqsx r k1 k2) none m
theorem zqsz {β : Type} (i : Nat) (k1 k2) : zqsy (β := β) (i + 1) k1 k2 = zqsx (zqsy i k1 k2) k1 k2 := rfl
def zqt0 {β : Type} := hid (zqsy (β := β) fuel)
noncomputable def zqt1 : Pb := ⟨58, zqsw, fun _ => zqt0, pl (p := zqsw) zqss [] (g := fun i _ => zqsy i) (by kernel_rfl) rfl (by kernel_rfl) (fun _ _ => rfl) fun _ _ _ _ => by kernel_rfl⟩
def zqt2 : zqsr := fun x k =>
 zqt0 (fun (t2 : Bool) =>
 k t2) (fun (state : Int) (x2 : zqw) =>
 cond (decide ((List.length x2.2.2.2.2.2.2.2.2.2.2.1 : Int) ≤ (32 : Int)))
 (let t : Bool := (decide (x2.2.1 = state));
 k t)
 (k false)) x.2.2.2.1 (0 : Int) x.2.2.2.2.2.2.2.2.2.2.1 (List.length x.2.2.2.2.2.2.2.2.2.2.1 : Int) (0 : Int) x
def zqt3 : zqsr := hid zqt2
noncomputable def zqt4 : En := ⟨86, .spec (sg [b43y] [] [b30y] [] zqt3), pf zqss [zqt1] [.tmp 2] Tryz.func86 (by kernel_rfl) fun _ _ => by kernel_rfl⟩
end
end Go.Lift
