/- Part7: Fn1, Fn2, LBase. -/
import Derived.Test.YtfgmlgnpnoijcadGreatProg
import Derived.Test.YtfgmlgnpnoijcadGreatPart6
set_option linter.unusedVariables false
set_option linter.unusedSimpArgs false
namespace Go.Lift
open Go.Proofs
noncomputable section
set_option maxRecDepth 100000
set_option linter.unusedVariables false
abbrev zqt5 := {β : Type} → Int → t9y → (t14y → Bool → Option β) → Option β
noncomputable def zqt6 : List En := [zqhq]
abbrev zqt7 (β : Type) := Int → t9y → t14y → Option β
abbrev zqt8 (β : Type) := Int → t9y → Int → t14y → Option β
noncomputable def zqt9 : Pc := ⟨175, 0, Q1 122 (Q2 Tryz.f115), ⟨0, [0, 1, 6, 7], [b27y, b33y, (false, [.math 0]), b27y], [.mat 22 3 (.int .i64)]⟩, [(.exit 0, ⟨0, [0, 1, 6], [b27y, b33y, (false, [.math 0])], [.mat 22 3 (.int .i64)]⟩)]⟩
abbrev zqta (β : Type) := Bool → t14y → Option β
abbrev zqtb (β : Type) := Int → t14y → Option β
abbrev zqtc (β : Type) := Int → t9y → Int → t14y → Option β
noncomputable def zqtd : Pc := ⟨175, 0, Q1 250 (Q2 Tryz.f115), ⟨0, [0, 1, 6, 10], [b27y, b33y, (false, [.math 0]), b27y], [.mat 22 3 (.int .i64)]⟩, [(.ret, ⟨0, [4, 5], [(false, [.math 0]), b30y], [.mat 22 3 (.int .i64)]⟩), (.exit 4, ⟨0, [0, 6], [b27y, (false, [.math 0])], [.mat 22 3 (.int .i64)]⟩)]⟩
abbrev zqte (β : Type) := Bool → t14y → Option β
abbrev zqtf (β : Type) := t14y → Option β
abbrev zqtg (β : Type) := Int → Int → t14y → Option β
noncomputable def zqth : Pc := ⟨175, 0, Q1 506 (Q2 Tryz.f115), ⟨0, [0, 6, 11], [b27y, (false, [.math 0]), b27y], [.mat 22 3 (.int .i64)]⟩, [(.ret, ⟨0, [4, 5], [(false, [.math 0]), b30y], [.mat 22 3 (.int .i64)]⟩), (.exit 6, ⟨0, [6], [(false, [.math 0])], [.mat 22 3 (.int .i64)]⟩)]⟩
abbrev zqti (β : Type) := Int → t9y → Int → t14y → t3y → Option β
abbrev zqtj (β : Type) := Int → t9y → Int → Int → t14y → t3y → Option β
noncomputable def zqtk : Pc := ⟨175, 0, Q1 202 (Qb zqt9.c), ⟨0, [0, 1, 6, 7, 8, 9], [b27y, b33y, (false, [.math 0]), b27y, b45y, b27y], [.mat 22 3 (.int .i64), .row 3 (.int .i64)]⟩, [(.exit 2, ⟨0, [0, 1, 6, 7, 8], [b27y, b33y, (false, [.math 0]), b27y, b45y], [.mat 22 3 (.int .i64), .row 3 (.int .i64)]⟩)]⟩
abbrev zqtl (β : Type) := Int → Int → t14y → Option β
abbrev zqtm (β : Type) := Int → Int → Int → t14y → Option β
noncomputable def zqtn : Pc := ⟨175, 0, Q1 98 (Qb zqth.c), ⟨0, [0, 6, 11, 12], [b27y, (false, [.math 0]), b27y, b27y], [.mat 22 3 (.int .i64)]⟩, [(.exit 8, ⟨0, [0, 6, 11], [b27y, (false, [.math 0]), b27y], [.mat 22 3 (.int .i64)]⟩)]⟩
abbrev zqto (β : Type) := Bool → t14y → Option β
abbrev zqtp (β : Type) := Int → Int → t14y → Option β
abbrev zqtq (β : Type) := Int → Int → Int → t14y → Option β
noncomputable def zqtr : Pc := ⟨175, 0, Q1 102 (Qb zqth.c), ⟨0, [0, 6, 11, 14], [b27y, (false, [.math 0]), b27y, b27y], [.mat 22 3 (.int .i64)]⟩, [(.ret, ⟨0, [4, 5], [(false, [.math 0]), b30y], [.mat 22 3 (.int .i64)]⟩), (.exit 12, ⟨0, [0, 6, 11], [b27y, (false, [.math 0]), b27y], [.mat 22 3 (.int .i64)]⟩)]⟩
abbrev zqts (β : Type) := Int → Int → Int → t14y → Option β
abbrev zqtt (β : Type) := Int → Int → Int → Int → t14y → Option β
noncomputable def zqtu : Pc := ⟨175, 0, Q1 50 (Qb zqtn.c), ⟨0, [0, 6, 11, 12, 13], [b27y, (false, [.math 0]), b27y, b27y, b27y], [.mat 22 3 (.int .i64)]⟩, [(.exit 10, ⟨0, [0, 6, 11, 12], [b27y, (false, [.math 0]), b27y, b27y], [.mat 22 3 (.int .i64)]⟩)]⟩
abbrev zqtv (β : Type) := Int → Int → Int → Int → t14y → Option β
abbrev zqtw (β : Type) := Int → Int → Int → Int → Bool → t14y → Option β
noncomputable def zqtx : Pc := ⟨175, 0, Q1 25 (Qb zqtu.c), ⟨0, [0, 6, 11, 12, 13, 131], [b27y, (false, [.math 0]), b27y, b27y, b27y, b30y], [.mat 22 3 (.int .i64)]⟩, [(.normal, ⟨0, [0, 6, 11, 12, 13], [b27y, (false, [.math 0]), b27y, b27y, b27y], [.mat 22 3 (.int .i64)]⟩)]⟩
def zqty {β : Type} (rec : zqtj β) (k1 : zqti β) : zqtj β := fun n l i_ j d row =>
 cond (decide (j < n))
 (let l2 : List Int := ([(1099511627776 : Int)] : List Int);
 cond (decide ((List.length row + List.length l2) * 8 ≤ Q5))
 (let l3 : List Int := (row ++ l2);
 let j2 : Int := (IntKind.i64.wrap (j + (1 : Int)));
 rec n l i_ j2 d l3)
 none)
 (k1 n l i_ d row)
def zqtz (m : Nat) {β : Type} (k1 : zqti β) : zqtj β := lp6 (fun r => zqty r k1) none m
theorem zqu0 {β : Type} (i : Nat) (k1) : zqtz (β := β) (i + 1) k1 = zqty (zqtz i k1) k1 := rfl
def zqu1 {β : Type} := hid (zqtz (β := β) fuel)
noncomputable def zqu2 : Pb := ⟨202, zqtk, fun _ => zqu1, Q1n mixed (X := ⟨look tab, gam zqt6, true, false, false, false, []⟩) (p := zqtk) Qp zqt6 rfl [] (g := fun i _ => zqtz i) (by kernel_rfl) rfl (by kernel_rfl) (fun _ _ => rfl) fun _ _ _ _ => by kernel_rfl⟩
def zqu3 {β : Type} (rec : zqt8 β) (k1 : zqt7 β) : zqt8 β := fun n l i_ d =>
 cond (decide (i_ < n))
 (zqu1 (fun (n2 : Int) (l2 : List t2y) (i_2 : Int) (d2 : List t3y) (row : List Int) =>
 cond (decide (0 ≤ i_2) && decide (i_2 < (List.length row : Int)))
 (let l3 : List Int := (List.set row (Int.toNat i_2) (0 : Int));
 let m_ : List t3y := ([l3] : List t3y);
 cond (decide ((List.length d2 + List.length m_) * 24 ≤ Q5))
 (let m_2 : List t3y := (d2 ++ m_);
 let i_3 : Int := (IntKind.i64.wrap (i_2 + (1 : Int)));
 rec n2 l2 i_3 m_2)
 none)
 none) n l i_ (0 : Int) d ([] : List Int))
 (k1 n l d)
def zqu4 (m : Nat) {β : Type} (k1 : zqt7 β) : zqt8 β := lp4 (fun r => zqu3 r k1) none m
theorem zqu5 {β : Type} (i : Nat) (k1) : zqu4 (β := β) (i + 1) k1 = zqu3 (zqu4 i k1) k1 := rfl
def zqu6 {β : Type} := hid (zqu4 (β := β) fuel)
noncomputable def zqu7 : Pb := ⟨122, zqt9, fun _ => zqu6, Q1n mixed (X := ⟨look tab, gam zqt6, true, false, false, false, []⟩) (p := zqt9) Qp zqt6 rfl [zqu2] (g := fun i _ => zqu4 i) (by kernel_rfl) rfl (by kernel_rfl) (fun _ _ => rfl) fun _ _ _ _ => by kernel_rfl⟩
def zqu8 {β : Type} (rec : zqtc β) (k1 : zqta β) (k2 : zqtb β) : zqtc β := fun n l i_ d =>
 cond (decide (i_ < (List.length l : Int)))
 (cond (decide (0 ≤ i_) && decide (i_ < (List.length l : Int)))
 (let e : t2y := List.getD l (Int.toNat i_) ((0 : Int), ((0 : Int), (0 : Int)));
 cond (decide (0 ≤ e.1) && decide (e.1 < (List.length d : Int)))
 (cond (decide (0 ≤ i_) && decide (i_ < (List.length l : Int)))
 (let e2 : t2y := List.getD l (Int.toNat i_) ((0 : Int), ((0 : Int), (0 : Int)));
 cond (decide (0 ≤ i_) && decide (i_ < (List.length l : Int)))
 (let e3 : t2y := List.getD l (Int.toNat i_) ((0 : Int), ((0 : Int), (0 : Int)));
 cond (decide (0 ≤ e3.1) && decide (e3.1 < (List.length d : Int)))
 (cond (decide (0 ≤ i_) && decide (i_ < (List.length l : Int)))
 (let e4 : t2y := List.getD l (Int.toNat i_) ((0 : Int), ((0 : Int), (0 : Int)));
 cond (decide (0 ≤ e4.2.1) && decide (e4.2.1 < (List.length (List.getD d (Int.toNat e3.1) []) : Int)))
 (cond (decide (0 ≤ i_) && decide (i_ < (List.length l : Int)))
 (let e5 : t2y := List.getD l (Int.toNat i_) ((0 : Int), ((0 : Int), (0 : Int)));
 cond (decide (0 ≤ e2.2.1) && decide (e2.2.1 < (List.length (List.getD d (Int.toNat e.1) []) : Int)))
 (let m_ : List t3y := (List.set d (Int.toNat e.1) (List.set (List.getD d (Int.toNat e.1) []) (Int.toNat e2.2.1) (if e5.2.2 < (List.getD (List.getD d (Int.toNat e3.1) []) (Int.toNat e4.2.1) (0 : Int)) then e5.2.2 else (List.getD (List.getD d (Int.toNat e3.1) []) (Int.toNat e4.2.1) (0 : Int)))));
 cond (decide (0 ≤ i_) && decide (i_ < (List.length l : Int)))
 (let e6 : t2y := List.getD l (Int.toNat i_) ((0 : Int), ((0 : Int), (0 : Int)));
 cond (decide (0 ≤ i_) && decide (i_ < (List.length l : Int)))
 (let e7 : t2y := List.getD l (Int.toNat i_) ((0 : Int), ((0 : Int), (0 : Int)));
 cond (decide (e6.1 = e7.2.1))
 (cond (decide (0 ≤ i_) && decide (i_ < (List.length l : Int)))
 (let e8 : t2y := List.getD l (Int.toNat i_) ((0 : Int), ((0 : Int), (0 : Int)));
 cond (decide (e8.2.2 < (0 : Int)))
 (k1 false ([] : List t3y))
 (let i_2 : Int := (IntKind.i64.wrap (i_ + (1 : Int)));
 rec n l i_2 m_))
 none)
 (let i_2 : Int := (IntKind.i64.wrap (i_ + (1 : Int)));
 rec n l i_2 m_))
 none)
 none)
 none)
 none)
 none)
 none)
 none)
 none)
 none)
 none)
 none)
 (k2 n d)
def zqu9 (m : Nat) {β : Type} (k1 : zqta β) (k2 : zqtb β) : zqtc β := lp4 (fun r => zqu8 r k1 k2) none m
theorem zqua {β : Type} (i : Nat) (k1 k2) : zqu9 (β := β) (i + 1) k1 k2 = zqu8 (zqu9 i k1 k2) k1 k2 := rfl
def zqub {β : Type} := hid (zqu9 (β := β) fuel)
noncomputable def zquc : Pb := ⟨250, zqtd, fun _ => zqub, Q1n mixed (X := ⟨look tab, gam zqt6, true, false, false, false, []⟩) (p := zqtd) Qp zqt6 rfl [] (g := fun i _ => zqu9 i) (by kernel_rfl) rfl (by kernel_rfl) (fun _ _ => rfl) fun _ _ _ _ => by kernel_rfl⟩
def zqud {β : Type} (k1 : zqtv β) : zqtw β := fun n k_ i_ j t131 d =>
 cond t131
 (cond (decide (0 ≤ i_) && decide (i_ < (List.length d : Int)))
 (cond (decide (0 ≤ i_) && decide (i_ < (List.length d : Int)))
 (cond (decide (0 ≤ j) && decide (j < (List.length (List.getD d (Int.toNat i_) []) : Int)))
 (cond (decide (0 ≤ i_) && decide (i_ < (List.length d : Int)))
 (cond (decide (0 ≤ k_) && decide (k_ < (List.length (List.getD d (Int.toNat i_) []) : Int)))
 (cond (decide (0 ≤ k_) && decide (k_ < (List.length d : Int)))
 (cond (decide (0 ≤ j) && decide (j < (List.length (List.getD d (Int.toNat k_) []) : Int)))
 (cond (decide (0 ≤ j) && decide (j < (List.length (List.getD d (Int.toNat i_) []) : Int)))
 (let m_ : List t3y := (List.set d (Int.toNat i_) (List.set (List.getD d (Int.toNat i_) []) (Int.toNat j) (if (IntKind.i64.wrap ((List.getD (List.getD d (Int.toNat i_) []) (Int.toNat k_) (0 : Int)) + (List.getD (List.getD d (Int.toNat k_) []) (Int.toNat j) (0 : Int)))) < (List.getD (List.getD d (Int.toNat i_) []) (Int.toNat j) (0 : Int)) then (IntKind.i64.wrap ((List.getD (List.getD d (Int.toNat i_) []) (Int.toNat k_) (0 : Int)) + (List.getD (List.getD d (Int.toNat k_) []) (Int.toNat j) (0 : Int)))) else (List.getD (List.getD d (Int.toNat i_) []) (Int.toNat j) (0 : Int)))));
 k1 n k_ i_ j m_)
 none)
 none)
 none)
 none)
 none)
 none)
 none)
 none)
 (k1 n k_ i_ j d)
def zque {β : Type} := hid (zqud (β := β))
noncomputable def zquf : Pb := ⟨25, zqtx, fun _ => zque, Qic mixed (X := ⟨look tab, gam zqt6, true, false, false, false, []⟩) (p := zqtx) Qp zqt6 rfl [] 25 (g := fun _ => zqud) (by kernel_rfl) fun _ _ => by kernel_rfl⟩
def zqug {β : Type} (rec : zqtt β) (k1 : zqts β) : zqtt β := fun n k_ i_ j d =>
 cond (decide (j < n))
 (cond (decide (0 ≤ i_) && decide (i_ < (List.length d : Int)))
 (cond (decide (0 ≤ k_) && decide (k_ < (List.length (List.getD d (Int.toNat i_) []) : Int)))
 (cond (decide ((List.getD (List.getD d (Int.toNat i_) []) (Int.toNat k_) (0 : Int)) < (1099511627776 : Int)))
 (cond (decide (0 ≤ k_) && decide (k_ < (List.length d : Int)))
 (cond (decide (0 ≤ j) && decide (j < (List.length (List.getD d (Int.toNat k_) []) : Int)))
 (zque (fun (n2 : Int) (k_2 : Int) (i_2 : Int) (j2 : Int) (d2 : List t3y) =>
 let j3 : Int := (IntKind.i64.wrap (j2 + (1 : Int)));
 rec n2 k_2 i_2 j3 d2) n k_ i_ j (decide ((List.getD (List.getD d (Int.toNat k_) []) (Int.toNat j) (0 : Int)) < (1099511627776 : Int))) d)
 none)
 none)
 (zque (fun (n2 : Int) (k_2 : Int) (i_2 : Int) (j2 : Int) (d2 : List t3y) =>
 let j3 : Int := (IntKind.i64.wrap (j2 + (1 : Int)));
 rec n2 k_2 i_2 j3 d2) n k_ i_ j false d))
 none)
 none)
 (k1 n k_ i_ d)
def zquh (m : Nat) {β : Type} (k1 : zqts β) : zqtt β := lp5 (fun r => zqug r k1) none m
theorem zqui {β : Type} (i : Nat) (k1) : zquh (β := β) (i + 1) k1 = zqug (zquh i k1) k1 := rfl
def zquj {β : Type} := hid (zquh (β := β) fuel)
noncomputable def zquk : Pb := ⟨50, zqtu, fun _ => zquj, Q1n mixed (X := ⟨look tab, gam zqt6, true, false, false, false, []⟩) (p := zqtu) Qp zqt6 rfl [zquf] (g := fun i _ => zquh i) (by kernel_rfl) rfl (by kernel_rfl) (fun _ _ => rfl) fun _ _ _ _ => by kernel_rfl⟩
def zqul {β : Type} (rec : zqtm β) (k1 : zqtl β) : zqtm β := fun n k_ i_ d =>
 cond (decide (i_ < n))
 (zquj (fun (n2 : Int) (k_2 : Int) (i_2 : Int) (d2 : List t3y) =>
 let i_3 : Int := (IntKind.i64.wrap (i_2 + (1 : Int)));
 rec n2 k_2 i_3 d2) n k_ i_ (0 : Int) d)
 (k1 n k_ d)
def zqum (m : Nat) {β : Type} (k1 : zqtl β) : zqtm β := lp4 (fun r => zqul r k1) none m
theorem zqun {β : Type} (i : Nat) (k1) : zqum (β := β) (i + 1) k1 = zqul (zqum i k1) k1 := rfl
def zquo {β : Type} := hid (zqum (β := β) fuel)
noncomputable def zqup : Pb := ⟨98, zqtn, fun _ => zquo, Q1n mixed (X := ⟨look tab, gam zqt6, true, false, false, false, []⟩) (p := zqtn) Qp zqt6 rfl [zquk] (g := fun i _ => zqum i) (by kernel_rfl) rfl (by kernel_rfl) (fun _ _ => rfl) fun _ _ _ _ => by kernel_rfl⟩
def zquq {β : Type} (rec : zqtq β) (k1 : zqto β) (k2 : zqtp β) : zqtq β := fun n k_ i_ d =>
 cond (decide (i_ < n))
 (cond (decide (0 ≤ i_) && decide (i_ < (List.length d : Int)))
 (cond (decide (0 ≤ i_) && decide (i_ < (List.length (List.getD d (Int.toNat i_) []) : Int)))
 (cond (decide ((List.getD (List.getD d (Int.toNat i_) []) (Int.toNat i_) (0 : Int)) < (0 : Int)))
 (k1 false ([] : List t3y))
 (let i_2 : Int := (IntKind.i64.wrap (i_ + (1 : Int)));
 rec n k_ i_2 d))
 none)
 none)
 (k2 n k_ d)
def zqur (m : Nat) {β : Type} (k1 : zqto β) (k2 : zqtp β) : zqtq β := lp4 (fun r => zquq r k1 k2) none m
theorem zqus {β : Type} (i : Nat) (k1 k2) : zqur (β := β) (i + 1) k1 k2 = zquq (zqur i k1 k2) k1 k2 := rfl
def zqut {β : Type} := hid (zqur (β := β) fuel)
noncomputable def zquu : Pb := ⟨102, zqtr, fun _ => zqut, Q1n mixed (X := ⟨look tab, gam zqt6, true, false, false, false, []⟩) (p := zqtr) Qp zqt6 rfl [] (g := fun i _ => zqur i) (by kernel_rfl) rfl (by kernel_rfl) (fun _ _ => rfl) fun _ _ _ _ => by kernel_rfl⟩
def zquv {β : Type} (rec : zqtg β) (k1 : zqte β) (k2 : zqtf β) : zqtg β := fun n k_ d =>
 cond (decide (k_ < n))
 (zquo (fun (n2 : Int) (k_2 : Int) (d2 : List t3y) =>
 zqut (fun (t5 : Bool) (t4 : List t3y) =>
 k1 t5 t4) (fun (n3 : Int) (k_3 : Int) (d3 : List t3y) =>
 let k_4 : Int := (IntKind.i64.wrap (k_3 + (1 : Int)));
 rec n3 k_4 d3) n2 k_2 (0 : Int) d2) n k_ (0 : Int) d)
 (k2 d)
def zquw (m : Nat) {β : Type} (k1 : zqte β) (k2 : zqtf β) : zqtg β := lp3 (fun r => zquv r k1 k2) none m
theorem zqux {β : Type} (i : Nat) (k1 k2) : zquw (β := β) (i + 1) k1 k2 = zquv (zquw i k1 k2) k1 k2 := rfl
def zquy {β : Type} := hid (zquw (β := β) fuel)
noncomputable def zquz : Pb := ⟨506, zqth, fun _ => zquy, Q1n mixed (X := ⟨look tab, gam zqt6, true, false, false, false, []⟩) (p := zqth) Qp zqt6 rfl [zqup, zquu] (g := fun i _ => zquw i) (by kernel_rfl) rfl (by kernel_rfl) (fun _ _ => rfl) fun _ _ _ _ => by kernel_rfl⟩
def zqv0 : zqt5 := fun n l k =>
 zqhp n l (fun (rValid : Bool) =>
 cond (!rValid)
 (k ([] : List t3y) false)
 (zqu6 (fun (n2 : Int) (l2 : List t2y) (d : List t3y) =>
 zqub (fun (t5 : Bool) (t4 : List t3y) =>
 k t4 t5) (fun (n3 : Int) (d2 : List t3y) =>
 zquy (fun (t5 : Bool) (t4 : List t3y) =>
 k t4 t5) (fun (d3 : List t3y) =>
 k d3 true) n3 (0 : Int) d2) n2 l2 (0 : Int) d) n l (0 : Int) ([] : List t3y)))
def zqv1 : zqt5 := hid zqv0
noncomputable def zqv2 : En := ⟨115, .spec (sg [b27y, b33y] [] [b77y, b30y] [] zqv1), Q7j mixed (X := ⟨look tab, gam zqt6, true, false, false, false, []⟩) Qp zqt6 rfl [zqu7, zquc, zquz] [.tmp 4, .tmp 5] Tryz.func115 (by kernel_rfl) fun _ _ => by kernel_rfl⟩
abbrev zqv3 := {β : Type} → zqo → Int → Int → (t0y → Bool → Option β) → Option β
noncomputable def zqv4 : List En := [zq57, zqjk, zqjg, zqjc, zqh8]
abbrev zqv5 (β : Type) := t0y → t0y → Option β
abbrev zqv6 (β : Type) := Int → Int → Int → zqo → t0y → t0y → Option β
noncomputable def zqv7 : Pc := ⟨62, 0, Q1 122 (Q2 Tryz.f128), ⟨0, [1, 2, 3, 6, 8, 9], [b27y, b27y, b29y, b34y, b37y, b27y], [b39y, b41y, b41y]⟩, [(.exit 0, ⟨0, [6, 8], [b29y, b34y], [b41y, b41y]⟩)]⟩
def zqv8 {β : Type} (rec : zqv6 β) (k1 : zqv5 β) : zqv6 β := fun host clock i_ r_ t6 out =>
 cond (decide (i_ < (List.length r_.2.1 : Int)))
 (cond (decide (0 ≤ i_) && decide (i_ < (List.length r_.2.1 : Int)))
 (let e : zqc := List.getD r_.2.1 (Int.toNat i_) ((0 : Int), ((0 : Int), ((0 : Int), (0 : Int))));
 cond (decide (e.1 = host))
 (cond (decide (0 ≤ host) && decide (host < (List.length r_.1 : Int)))
 (let e2 : t5y := List.getD r_.1 (Int.toNat host) (([] : List UInt8), (0 : Int));
 cond (decide (0 ≤ i_) && decide (i_ < (List.length r_.2.1 : Int)))
 (let e3 : zqc := List.getD r_.2.1 (Int.toNat i_) ((0 : Int), ((0 : Int), ((0 : Int), (0 : Int))));
 zqjf e2 e3 clock (fun (rFrom : t0y) =>
 zqjb out rFrom (fun (rMeet : t0y) =>
 let i_2 : Int := (IntKind.i64.wrap (i_ + (1 : Int)));
 rec host clock i_2 r_ t6 rMeet)))
 none)
 none)
 (let i_2 : Int := (IntKind.i64.wrap (i_ + (1 : Int)));
 rec host clock i_2 r_ t6 out))
 none)
 (k1 t6 out)
def zqv9 (m : Nat) {β : Type} (k1 : zqv5 β) : zqv6 β := lp6 (fun r => zqv8 r k1) none m
theorem zqva {β : Type} (i : Nat) (k1) : zqv9 (β := β) (i + 1) k1 = zqv8 (zqv9 i k1) k1 := rfl
def zqvb {β : Type} := hid (zqv9 (β := β) fuel)
noncomputable def zqvc : Pb := ⟨122, zqv7, fun _ => zqvb, pl (p := zqv7) zqv4 [] (g := fun i _ => zqv9 i) (by kernel_rfl) rfl (by kernel_rfl) (fun _ _ => rfl) fun _ _ _ _ => by kernel_rfl⟩
def zqvd : zqv3 := fun r_ host clock k =>
 zqh7 r_ (fun (rValid : Bool) =>
 cond (!rValid)
 (k ((0 : Int), (0 : Int)) false)
 (zq56 host (0 : Int) (IntKind.i64.wrap ((List.length r_.1 : Int) - (1 : Int))) (fun (rIn : Bool) =>
 cond (!rIn)
 (k ((0 : Int), (0 : Int)) false)
 (zq56 clock (0 : Int) (8589934592 : Int) (fun (rIn2 : Bool) =>
 cond (!rIn2)
 (k ((0 : Int), (0 : Int)) false)
 (zqvb (fun (t6 : t0y) (out : t0y) =>
 zqjj out (fun (rEmpty : Bool) =>
 k out (!rEmpty))) host clock (0 : Int) r_ ((0 : Int), (0 : Int)) ((0 : Int), (8589934592 : Int))))))))
def zqve : zqv3 := hid zqvd
noncomputable def zqvf : En := ⟨128, .spec (sg [b49y, b27y, b27y] [] [b35y, b30y] [] zqve), pf zqv4 [zqvc] [.cell 6 57, .tmp 7] Tryz.func128 (by kernel_rfl) fun _ _ => by kernel_rfl⟩
abbrev zqvg := {β : Type} → zqc → (Bool → Option β) → Option β
def zqvh : zqvg := fun s k =>
 zqir s.2.1 (fun (rinstant : Bool) =>
 cond rinstant
 (zqir s.2.2.1 (fun (rinstant2 : Bool) =>
 cond rinstant2
 (zqir s.2.2.2 (fun (rinstant3 : Bool) =>
 cond rinstant3
 (let t : Bool := (decide (s.2.2.1 ≤ s.2.2.2));
 k t)
 (k false)))
 (k false)))
 (k false))
def zqvi : zqvg := hid zqvh
noncomputable def zqvj : En := ⟨149, .spec (sg [(true, [.data zqd])] [] [b30y] [] zqvi), pf [zqis] [] [.tmp 2] Tryz.func149 (by kernel_rfl) fun _ _ => by kernel_rfl⟩
abbrev zqvk := {β : Type} → Int → Int → (Int → Int → Option β) → Option β
def zqvl : zqvk := fun drift d k =>
 zqin drift (0 : Int) (500000 : Int) (fun (rin : Bool) =>
 cond (!rin)
 (k (0 : Int) (0 : Int))
 (zqir d (fun (rinstant : Bool) =>
 cond (!rinstant)
 (k (0 : Int) (0 : Int))
 (cond (!decide ((IntKind.i64.wrap ((1000000 : Int) + drift)) = 0))
 (zqjn (IntKind.i64.wrap (d * (1000000 : Int))) (IntKind.i64.wrap ((1000000 : Int) - drift)) (fun (rElapsed1 : Int) =>
 let low : Int := (IntKind.i64.wrap (Int.tdiv (IntKind.i64.wrap (d * (1000000 : Int))) (IntKind.i64.wrap ((1000000 : Int) + drift))));
 k low rElapsed1))
 none))))
def zqvm : zqvk := hid zqvl
noncomputable def zqvn : En := ⟨154, .spec (sg [b27y, b27y] [] [b27y, b27y] [] zqvm), pf [zqjo, zqio, zqis] [] [.tmp 4, .tmp 5] Tryz.func154 (by kernel_rfl) fun _ _ => by kernel_rfl⟩
abbrev zqvo := {β : Type} → t0y → (Int → Option β) → Option β
def zqvp : zqvo := fun x k =>
 zql3 x.1 (fun (rWeekday : Int) =>
 let t : Int := (IntKind.i64.wrap ((IntKind.i64.wrap (rWeekday * (86400 : Int))) + x.2));
 k t)
def zqvq : zqvo := hid zqvp
noncomputable def zqvr : En := ⟨174, .spec (sg [b35y] [] [b27y] [] zqvq), pf [zql4] [] [.tmp 2] Tryz.func174 (by kernel_rfl) fun _ _ => by kernel_rfl⟩
abbrev zqvs := {β : Type} → (Int → Option β) → Option β
def zqvt : zqvs := fun k =>
 zqlk (2241 : Int) (fun (ryear : Int) =>
 let t : Int := (IntKind.i64.wrap (ryear - (1 : Int)));
 k t)
def zqvu : zqvs := hid zqvt
noncomputable def zqvv : En := ⟨185, .spec (sg [] [] [b27y] [] zqvu), pf [zqll] [] [.tmp 0] Tryz.func185 (by kernel_rfl) fun _ _ => by kernel_rfl⟩
abbrev zqvw := {β : Type} → zqm → zqa → (Int → Option β) → Option β
noncomputable def zqvx : List En := [zqvv, zqi7, zqks]
abbrev zqvy (β : Type) := Int → Option β
abbrev zqvz (β : Type) := zqm → zqa → Option β
abbrev zqw0 (β : Type) := Int → zqm → zqa → Option β
noncomputable def zqw1 : Pc := ⟨102, 0, Q1 58 (Q2 Tryz.f186), ⟨0, [2, 3, 5], [b29y, b34y, b27y], [b40y, b55y]⟩, [(.ret, ⟨0, [4], [b27y], []⟩), (.exit 1, ⟨0, [2, 3], [b29y, b34y], [b40y, b55y]⟩)]⟩
abbrev zqw2 (β : Type) := Int → Option β
abbrev zqw3 (β : Type) := Unit → Option β
abbrev zqw4 (β : Type) := Bool → zqa → Option β
noncomputable def zqw5 : Pc := ⟨102, 0, Q1 1951 (Q2 Tryz.f186), ⟨0, [3, 79], [b29y, b30y], [b55y]⟩, [(.ret, ⟨0, [4], [b27y], []⟩), (.normal, ⟨0, [], [], []⟩)]⟩
abbrev zqw6 (β : Type) := Int → Option β
abbrev zqw7 (β : Type) := zqm → zqa → Option β
noncomputable def zqw8 : Pc := ⟨102, 0, Q1 7 (Q2 Tryz.f186), ⟨0, [2, 3], [b29y, b34y], [b40y, b55y]⟩, [(.ret, ⟨0, [4], [b27y], []⟩)]⟩
abbrev zqw9 (β : Type) := Int → Option β
abbrev zqwa (β : Type) := zqm → zqa → Option β
abbrev zqwb (β : Type) := Bool → zqm → zqa → Option β
noncomputable def zqwc : Pc := ⟨102, 0, Q1 103 (Q2 Tryz.f186), ⟨0, [2, 3, 15], [b29y, b34y, b30y], [b40y, b55y]⟩, [(.ret, ⟨0, [4], [b27y], []⟩), (.normal, ⟨0, [2, 3], [b29y, b34y], [b40y, b55y]⟩)]⟩
def zqwd {β : Type} (rec : zqw0 β) (k1 : zqvy β) (k2 : zqvz β) : zqw0 β := fun i_ c l =>
 cond (decide (i_ < (List.length l.2.2.2.2.2.1 : Int)))
 (cond (decide (0 ≤ i_) && decide (i_ < (List.length l.2.2.2.2.2.1 : Int)))
 (let e : Int := List.getD l.2.2.2.2.2.1 (Int.toNat i_) (0 : Int);
 zqkr e (0 : Int) (IntKind.i64.wrap ((List.length c.2.1 : Int) - (1 : Int))) (fun (rin : Bool) =>
 cond (!rin)
 (k1 (3 : Int))
 (let i_2 : Int := (IntKind.i64.wrap (i_ + (1 : Int)));
 rec i_2 c l)))
 none)
 (k2 c l)
def zqwe (m : Nat) {β : Type} (k1 : zqvy β) (k2 : zqvz β) : zqw0 β := lp3 (fun r => zqwd r k1 k2) none m
theorem zqwf {β : Type} (i : Nat) (k1 k2) : zqwe (β := β) (i + 1) k1 k2 = zqwd (zqwe i k1 k2) k1 k2 := rfl
def zqwg {β : Type} := hid (zqwe (β := β) fuel)
noncomputable def zqwh : Pb := ⟨58, zqw1, fun _ => zqwg, pl (p := zqw1) zqvx [] (g := fun i _ => zqwe i) (by kernel_rfl) rfl (by kernel_rfl) (fun _ _ => rfl) fun _ _ _ _ => by kernel_rfl⟩
def zqwi {β : Type} (k1 : zqw2 β) (k2 : zqw3 β) : zqw4 β := fun t79 l =>
 cond t79
 (k1 (3 : Int))
 (cond (decide (l.2.2.2.2.2.2.2.2 = (0 : Int)))
 (let t : Bool := (!decide (l.2.2.2.2.2.2.2.1 = (0 : Int)));
 cond t
 (k1 (1 : Int))
 (k2 ()))
 (k2 ()))
def zqwj {β : Type} := hid (zqwi (β := β))
noncomputable def zqwk : Pb := ⟨1951, zqw5, fun _ => zqwj, pe (p := zqw5) zqvx [] 1951 (g := fun _ => zqwi) (by kernel_rfl) fun _ _ => by kernel_rfl⟩
def zqwl {β : Type} (k1 : zqw6 β) : zqw7 β := fun c l =>
 zqwg (fun (t4 : Int) =>
 k1 t4) (fun (c2 : zqm) (l2 : zqa) =>
 zqi6 l2.2.2.2.2.2.2.1 (fun (rCheck : Int) =>
 let t : Bool := (!decide (rCheck = (0 : Int)));
 cond t
 (k1 (8 : Int))
 (zqkr l2.2.2.2.2.2.2.2.2 (0 : Int) (2 : Int) (fun (rin : Bool) =>
 cond (!rin)
 (k1 (1 : Int))
 (cond (!decide (l2.2.2.2.2.2.2.2.2 = (0 : Int)))
 (zqkr l2.2.2.2.2.2.2.2.1 (0 : Int) (IntKind.i64.wrap ((List.length c2.2.2.1 : Int) - (1 : Int))) (fun (rin2 : Bool) =>
 zqwj (fun (t4 : Int) =>
 k1 t4) (fun (_ : Unit) =>
 k1 (0 : Int)) (!rin2) l2))
 (zqwj (fun (t4 : Int) =>
 k1 t4) (fun (_ : Unit) =>
 k1 (0 : Int)) false l2)))))) (0 : Int) c l
def zqwm {β : Type} := hid (zqwl (β := β))
noncomputable def zqwn : Pb := ⟨7, zqw8, fun _ => zqwm, pe (p := zqw8) zqvx [zqwh, zqwk] 7 (g := fun _ => zqwl) (by kernel_rfl) fun _ _ => by kernel_rfl⟩
def zqwo {β : Type} (k1 : zqw9 β) (k2 : zqwa β) : zqwb β := fun t15 c l =>
 cond t15
 (k1 (1 : Int))
 (let t : Bool := (decide ((List.length l.2.2.2.2.2.1 : Int) = (0 : Int)));
 cond t
 (k1 (7 : Int))
 (let t2 : Bool := (decide ((12 : Int) < (List.length l.2.2.2.2.2.1 : Int)));
 cond t2
 (k1 (5 : Int))
 (k2 c l)))
def zqwp {β : Type} := hid (zqwo (β := β))
noncomputable def zqwq : Pb := ⟨103, zqwc, fun _ => zqwp, pe (p := zqwc) zqvx [] 103 (g := fun _ => zqwo) (by kernel_rfl) fun _ _ => by kernel_rfl⟩
def zqwr : zqvw := fun c l k =>
 zqkr l.2.1 (0 : Int) (IntKind.i64.wrap ((List.length c.1 : Int) - (1 : Int))) (fun (rin : Bool) =>
 cond (!rin)
 (k (3 : Int))
 (zqvu  (fun (rMaxDay : Int) =>
 zqkr l.2.2.1.1 (1 : Int) rMaxDay (fun (rin2 : Bool) =>
 cond (!rin2)
 (zqwp (fun (t4 : Int) =>
 k t4) (fun (c2 : zqm) (l2 : zqa) =>
 zqwm (fun (t4 : Int) =>
 k t4) c2 l2) true c l)
 (zqkr l.2.2.1.2 (0 : Int) (86399 : Int) (fun (rin3 : Bool) =>
 cond (!rin3)
 (zqwp (fun (t4 : Int) =>
 k t4) (fun (c2 : zqm) (l2 : zqa) =>
 zqwm (fun (t4 : Int) =>
 k t4) c2 l2) true c l)
 (zqkr l.2.2.2.1 (0 : Int) (2 : Int) (fun (rin4 : Bool) =>
 cond (!rin4)
 (zqwp (fun (t4 : Int) =>
 k t4) (fun (c2 : zqm) (l2 : zqa) =>
 zqwm (fun (t4 : Int) =>
 k t4) c2 l2) true c l)
 (zqkr l.2.2.2.2.1 (1 : Int) (400 : Int) (fun (rin5 : Bool) =>
 zqwp (fun (t4 : Int) =>
 k t4) (fun (c2 : zqm) (l2 : zqa) =>
 zqwm (fun (t4 : Int) =>
 k t4) c2 l2) (!rin5) c l))))))))))
def zqws : zqvw := hid zqwr
noncomputable def zqwt : En := ⟨186, .spec (sg [b47y, b80y] [] [b27y] [] zqws), pf zqvx [zqwn, zqwq] [.tmp 4] Tryz.func186 (by kernel_rfl) fun _ _ => by kernel_rfl⟩
abbrev zqwu := {β : Type} → zqm → t8y → (Int → Option β) → Option β
noncomputable def zqwv : List En := [zqvv, zqks]
abbrev zqww (β : Type) := Int → Option β
abbrev zqwx (β : Type) := Unit → Option β
abbrev zqwy (β : Type) := Bool → t8y → Option β
noncomputable def zqwz : Pc := ⟨86, 0, Q1 14847 (Q2 Tryz.f187), ⟨0, [3, 64], [b29y, b30y], [b67y]⟩, [(.ret, ⟨0, [4], [b27y], []⟩), (.normal, ⟨0, [], [], []⟩)]⟩
abbrev zqx0 (β : Type) := Int → Option β
abbrev zqx1 (β : Type) := Unit → Option β
abbrev zqx2 (β : Type) := Bool → t8y → Option β
noncomputable def zqx3 : Pc := ⟨86, 0, Q1 3711 (Q2 Tryz.f187), ⟨0, [3, 53], [b29y, b30y], [b67y]⟩, [(.ret, ⟨0, [4], [b27y], []⟩), (.normal, ⟨0, [], [], []⟩)]⟩
abbrev zqx4 (β : Type) := Int → Option β
abbrev zqx5 (β : Type) := Unit → Option β
abbrev zqx6 (β : Type) := Bool → t8y → Option β
noncomputable def zqx7 : Pc := ⟨86, 0, Q1 927 (Q2 Tryz.f187), ⟨0, [3, 44], [b29y, b30y], [b67y]⟩, [(.ret, ⟨0, [4], [b27y], []⟩), (.normal, ⟨0, [], [], []⟩)]⟩
abbrev zqx8 (β : Type) := Int → Option β
abbrev zqx9 (β : Type) := Unit → Option β
abbrev zqxa (β : Type) := Bool → t8y → Option β
noncomputable def zqxb : Pc := ⟨86, 0, Q1 231 (Q2 Tryz.f187), ⟨0, [3, 14], [b29y, b30y], [b67y]⟩, [(.ret, ⟨0, [4], [b27y], []⟩), (.normal, ⟨0, [], [], []⟩)]⟩
def zqxc {β : Type} (k1 : zqww β) (k2 : zqwx β) : zqwy β := fun t64 x =>
 cond t64
 (k1 (1 : Int))
 (let t : Bool := (decide (x.2.2.2.2 ≤ x.2.2.2.1));
 cond t
 (k1 (6 : Int))
 (k2 ()))
def zqxd {β : Type} := hid (zqxc (β := β))
noncomputable def zqxe : Pb := ⟨14847, zqwz, fun _ => zqxd, pe (p := zqwz) zqwv [] 14847 (g := fun _ => zqxc) (by kernel_rfl) fun _ _ => by kernel_rfl⟩
def zqxf {β : Type} (k1 : zqx0 β) (k2 : zqx1 β) : zqx2 β := fun t53 x =>
 cond t53
 (k1 (4 : Int))
 (cond (decide (x.2.2.2.1 < (0 : Int)))
 (zqxd (fun (t4 : Int) =>
 k1 t4) (fun (_ : Unit) =>
 k2 ()) true x)
 (cond (decide (x.2.2.2.2 < (0 : Int)))
 (zqxd (fun (t4 : Int) =>
 k1 t4) (fun (_ : Unit) =>
 k2 ()) true x)
 (cond (!decide ((86400 : Int) = 0))
 (zqvu  (fun (rMaxDay : Int) =>
 let t : Bool := (decide (rMaxDay < (IntKind.i64.wrap (Int.tdiv x.2.2.2.2 (86400 : Int)))));
 zqxd (fun (t4 : Int) =>
 k1 t4) (fun (_ : Unit) =>
 k2 ()) t x))
 none)))
def zqxg {β : Type} := hid (zqxf (β := β))
noncomputable def zqxh : Pb := ⟨3711, zqx3, fun _ => zqxg, pe (p := zqx3) zqwv [zqxe] 3711 (g := fun _ => zqxf) (by kernel_rfl) fun _ _ => by kernel_rfl⟩
def zqxi {β : Type} (k1 : zqx4 β) (k2 : zqx5 β) : zqx6 β := fun t44 x =>
 cond t44
 (k1 (1 : Int))
 (cond (decide (x.1 = (2 : Int)))
 (let t : Bool := (decide (x.2.1 = x.2.2.1));
 zqxg (fun (t4 : Int) =>
 k1 t4) (fun (_ : Unit) =>
 k2 ()) t x)
 (zqxg (fun (t4 : Int) =>
 k1 t4) (fun (_ : Unit) =>
 k2 ()) false x))
def zqxj {β : Type} := hid (zqxi (β := β))
noncomputable def zqxk : Pb := ⟨927, zqx7, fun _ => zqxj, pe (p := zqx7) zqwv [zqxh] 927 (g := fun _ => zqxi) (by kernel_rfl) fun _ _ => by kernel_rfl⟩
def zqxl {β : Type} (k1 : zqx8 β) (k2 : zqx9 β) : zqxa β := fun t14 x =>
 cond t14
 (k1 (3 : Int))
 (cond (!decide (x.1 = (2 : Int)))
 (let t : Bool := (!decide (x.2.2.1 = (0 : Int)));
 zqxj (fun (t4 : Int) =>
 k1 t4) (fun (_ : Unit) =>
 k2 ()) t x)
 (zqxj (fun (t4 : Int) =>
 k1 t4) (fun (_ : Unit) =>
 k2 ()) false x))
def zqxm {β : Type} := hid (zqxl (β := β))
noncomputable def zqxn : Pb := ⟨231, zqxb, fun _ => zqxm, pe (p := zqxb) zqwv [zqxk] 231 (g := fun _ => zqxl) (by kernel_rfl) fun _ _ => by kernel_rfl⟩
def zqxo : zqwu := fun c x k =>
 zqkr x.1 (0 : Int) (2 : Int) (fun (rin : Bool) =>
 cond (!rin)
 (k (1 : Int))
 (zqkr x.2.1 (0 : Int) (IntKind.i64.wrap ((List.length c.2.1 : Int) - (1 : Int))) (fun (rin2 : Bool) =>
 cond (!rin2)
 (cond (!decide (x.1 = (1 : Int)))
 (zqxm (fun (t4 : Int) =>
 k t4) (fun (_ : Unit) =>
 k (0 : Int)) true x)
 (cond (!decide (x.2.1 = (-1 : Int)))
 (zqxm (fun (t4 : Int) =>
 k t4) (fun (_ : Unit) =>
 k (0 : Int)) true x)
 (cond (decide (x.1 = (2 : Int)))
 (zqkr x.2.2.1 (0 : Int) (IntKind.i64.wrap ((List.length c.2.1 : Int) - (1 : Int))) (fun (rin3 : Bool) =>
 zqxm (fun (t4 : Int) =>
 k t4) (fun (_ : Unit) =>
 k (0 : Int)) (!rin3) x))
 (zqxm (fun (t4 : Int) =>
 k t4) (fun (_ : Unit) =>
 k (0 : Int)) false x))))
 (cond (decide (x.1 = (2 : Int)))
 (zqkr x.2.2.1 (0 : Int) (IntKind.i64.wrap ((List.length c.2.1 : Int) - (1 : Int))) (fun (rin3 : Bool) =>
 zqxm (fun (t4 : Int) =>
 k t4) (fun (_ : Unit) =>
 k (0 : Int)) (!rin3) x))
 (zqxm (fun (t4 : Int) =>
 k t4) (fun (_ : Unit) =>
 k (0 : Int)) false x)))))
def zqxp : zqwu := hid zqxo
noncomputable def zqxq : En := ⟨187, .spec (sg [b47y, (true, [.data (.prod (.int .i64) zqd)])] [] [b27y] [] zqxp), pf zqwv [zqxn] [.tmp 4] Tryz.func187 (by kernel_rfl) fun _ _ => by kernel_rfl⟩
abbrev zqxr := {β : Type} → t7y → (Bool → Option β) → Option β
noncomputable def zqxs : List En := [zqm5]
abbrev zqxt (β : Type) := Bool → Option β
abbrev zqxu (β : Type) := Unit → Option β
abbrev zqxv (β : Type) := t7y → Int → Option β
noncomputable def zqxw : Pc := ⟨57, 0, Q1 58 (Q2 Tryz.f193), ⟨0, [0, 3], [b63y, b27y], []⟩, [(.ret, ⟨0, [2], [b30y], []⟩), (.exit 0, ⟨0, [], [], []⟩)]⟩
def zqxx {β : Type} (rec : zqxv β) (k1 : zqxt β) (k2 : zqxu β) : zqxv β := fun s i_ =>
 cond (decide (i_ < (List.length s : Int)))
 (cond (decide (0 ≤ i_) && decide (i_ < (List.length s : Int)))
 (cond (decide (((List.getD s (Int.toNat i_) 0).toNat : Int) < (97 : Int)))
 (cond (decide (0 ≤ i_) && decide (i_ < (List.length s : Int)))
 (zqm4 ((List.getD s (Int.toNat i_) 0).toNat : Int) (fun (rdigit : Bool) =>
 cond (!rdigit)
 (cond (decide (0 ≤ i_) && decide (i_ < (List.length s : Int)))
 (cond (!decide (((List.getD s (Int.toNat i_) 0).toNat : Int) = (95 : Int)))
 (cond (decide (0 ≤ i_) && decide (i_ < (List.length s : Int)))
 (cond (!decide (((List.getD s (Int.toNat i_) 0).toNat : Int) = (45 : Int)))
 (k1 false)
 (let i_2 : Int := (IntKind.i64.wrap (i_ + (1 : Int)));
 rec s i_2))
 none)
 (let i_2 : Int := (IntKind.i64.wrap (i_ + (1 : Int)));
 rec s i_2))
 none)
 (let i_2 : Int := (IntKind.i64.wrap (i_ + (1 : Int)));
 rec s i_2)))
 none)
 (cond (decide (0 ≤ i_) && decide (i_ < (List.length s : Int)))
 (cond (decide ((122 : Int) < ((List.getD s (Int.toNat i_) 0).toNat : Int)))
 (cond (decide (0 ≤ i_) && decide (i_ < (List.length s : Int)))
 (zqm4 ((List.getD s (Int.toNat i_) 0).toNat : Int) (fun (rdigit : Bool) =>
 cond (!rdigit)
 (cond (decide (0 ≤ i_) && decide (i_ < (List.length s : Int)))
 (cond (!decide (((List.getD s (Int.toNat i_) 0).toNat : Int) = (95 : Int)))
 (cond (decide (0 ≤ i_) && decide (i_ < (List.length s : Int)))
 (cond (!decide (((List.getD s (Int.toNat i_) 0).toNat : Int) = (45 : Int)))
 (k1 false)
 (let i_2 : Int := (IntKind.i64.wrap (i_ + (1 : Int)));
 rec s i_2))
 none)
 (let i_2 : Int := (IntKind.i64.wrap (i_ + (1 : Int)));
 rec s i_2))
 none)
 (let i_2 : Int := (IntKind.i64.wrap (i_ + (1 : Int)));
 rec s i_2)))
 none)
 (let i_2 : Int := (IntKind.i64.wrap (i_ + (1 : Int)));
 rec s i_2))
 none))
 none)
 (k2 ())
def zqxy (m : Nat) {β : Type} (k1 : zqxt β) (k2 : zqxu β) : zqxv β := lp2 (fun r => zqxx r k1 k2) none m
theorem zqxz {β : Type} (i : Nat) (k1 k2) : zqxy (β := β) (i + 1) k1 k2 = zqxx (zqxy i k1 k2) k1 k2 := rfl
def zqy0 {β : Type} := hid (zqxy (β := β) fuel)
noncomputable def zqy1 : Pb := ⟨58, zqxw, fun _ => zqy0, pl (p := zqxw) zqxs [] (g := fun i _ => zqxy i) (by kernel_rfl) rfl (by kernel_rfl) (fun _ _ => rfl) fun _ _ _ _ => by kernel_rfl⟩
def zqy2 : zqxr := fun s k =>
 cond (decide ((List.length s : Int) < (1 : Int)))
 (k false)
 (cond (decide ((24 : Int) < (List.length s : Int)))
 (k false)
 (cond (decide (0 ≤ (0 : Int)) && decide ((0 : Int) < (List.length s : Int)))
 (cond (decide (((List.getD s (Int.toNat (0 : Int)) 0).toNat : Int) < (97 : Int)))
 (k false)
 (cond (decide (0 ≤ (0 : Int)) && decide ((0 : Int) < (List.length s : Int)))
 (cond (decide ((122 : Int) < ((List.getD s (Int.toNat (0 : Int)) 0).toNat : Int)))
 (k false)
 (zqy0 (fun (t2 : Bool) =>
 k t2) (fun (_ : Unit) =>
 k true) s (0 : Int)))
 none))
 none))
def zqy3 : zqxr := hid zqy2
noncomputable def zqy4 : En := ⟨193, .spec (sg [b63y] [] [b30y] [] zqy3), pf zqxs [zqy1] [.tmp 2] Tryz.func193 (by kernel_rfl) fun _ _ => by kernel_rfl⟩
abbrev zqy5 := {β : Type} → Int → Int → (Int → Option β) → Option β
noncomputable def zqy6 : List En := [zqmd]
abbrev zqy7 (β : Type) := Int → Option β
abbrev zqy8 (β : Type) := Unit → Option β
abbrev zqy9 (β : Type) := Int → Int → Bool → Option β
noncomputable def zqya : Pc := ⟨23, 0, Q1 215 (Q2 Tryz.f207), ⟨0, [0, 5, 14], [b27y, b27y, b30y], []⟩, [(.ret, ⟨0, [4], [b27y], []⟩), (.normal, ⟨0, [], [], []⟩)]⟩
abbrev zqyb (β : Type) := Int → Option β
abbrev zqyc (β : Type) := Unit → Option β
abbrev zqyd (β : Type) := Int → Int → Bool → Option β
noncomputable def zqye : Pc := ⟨23, 0, Q1 53 (Q2 Tryz.f207), ⟨0, [0, 5, 6], [b27y, b27y, b30y], []⟩, [(.ret, ⟨0, [4], [b27y], []⟩), (.normal, ⟨0, [], [], []⟩)]⟩
def zqyf {β : Type} (k1 : zqy7 β) (k2 : zqy8 β) : zqy9 β := fun year t5 t14 =>
 cond t14
 (k1 (30 : Int))
 (let t : Bool := (decide (t5 = (2 : Int)));
 cond t
 (zqmc year (fun (rLeap : Bool) =>
 cond rLeap
 (k1 (29 : Int))
 (k1 (28 : Int))))
 (k2 ()))
def zqyg {β : Type} := hid (zqyf (β := β))
noncomputable def zqyh : Pb := ⟨215, zqya, fun _ => zqyg, pe (p := zqya) zqy6 [] 215 (g := fun _ => zqyf) (by kernel_rfl) fun _ _ => by kernel_rfl⟩
def zqyi {β : Type} (k1 : zqyb β) (k2 : zqyc β) : zqyd β := fun year t5 t6 =>
 cond t6
 (k1 (31 : Int))
 (let t : Bool := (decide (t5 = (4 : Int)));
 cond t
 (zqyg (fun (t4 : Int) =>
 k1 t4) (fun (_ : Unit) =>
 k2 ()) year t5 t)
 (let t2 : Bool := (decide (t5 = (6 : Int)));
 cond t2
 (zqyg (fun (t4 : Int) =>
 k1 t4) (fun (_ : Unit) =>
 k2 ()) year t5 t2)
 (let t3 : Bool := (decide (t5 = (9 : Int)));
 cond t3
 (zqyg (fun (t4 : Int) =>
 k1 t4) (fun (_ : Unit) =>
 k2 ()) year t5 t3)
 (let t4 : Bool := (decide (t5 = (11 : Int)));
 zqyg (fun (t42 : Int) =>
 k1 t42) (fun (_ : Unit) =>
 k2 ()) year t5 t4))))
def zqyj {β : Type} := hid (zqyi (β := β))
noncomputable def zqyk : Pb := ⟨53, zqye, fun _ => zqyj, pe (p := zqye) zqy6 [zqyh] 53 (g := fun _ => zqyi) (by kernel_rfl) fun _ _ => by kernel_rfl⟩
def zqyl : zqy5 := fun year month k =>
 let t : Bool := (decide (month = (1 : Int)));
 cond t
 (zqyj (fun (t4 : Int) =>
 k t4) (fun (_ : Unit) =>
 k (0 : Int)) year month t)
 (let t2 : Bool := (decide (month = (3 : Int)));
 cond t2
 (zqyj (fun (t4 : Int) =>
 k t4) (fun (_ : Unit) =>
 k (0 : Int)) year month t2)
 (let t3 : Bool := (decide (month = (5 : Int)));
 cond t3
 (zqyj (fun (t4 : Int) =>
 k t4) (fun (_ : Unit) =>
 k (0 : Int)) year month t3)
 (let t4 : Bool := (decide (month = (7 : Int)));
 cond t4
 (zqyj (fun (t42 : Int) =>
 k t42) (fun (_ : Unit) =>
 k (0 : Int)) year month t4)
 (let t5 : Bool := (decide (month = (8 : Int)));
 cond t5
 (zqyj (fun (t42 : Int) =>
 k t42) (fun (_ : Unit) =>
 k (0 : Int)) year month t5)
 (let t6 : Bool := (decide (month = (10 : Int)));
 cond t6
 (zqyj (fun (t42 : Int) =>
 k t42) (fun (_ : Unit) =>
 k (0 : Int)) year month t6)
 (let t7 : Bool := (decide (month = (12 : Int)));
 zqyj (fun (t42 : Int) =>
 k t42) (fun (_ : Unit) =>
 k (0 : Int)) year month t7))))))
def zqym : zqy5 := hid zqyl
noncomputable def zqyn : En := ⟨207, .spec (sg [b27y, b27y] [] [b27y] [] zqym), pf zqy6 [zqyk] [.tmp 4] Tryz.func207 (by kernel_rfl) fun _ _ => by kernel_rfl⟩
abbrev zqyo := {β : Type} → t2y → (Bool → Option β) → Option β
def zqyp : zqyo := fun d k =>
 cond (decide ((1970 : Int) ≤ d.1))
 (cond (decide (d.1 ≤ (2240 : Int)))
 (cond (decide ((1 : Int) ≤ d.2.1))
 (cond (decide (d.2.1 ≤ (12 : Int)))
 (cond (decide ((1 : Int) ≤ d.2.2))
 (zqym d.1 d.2.1 (fun (rDays : Int) =>
 k (decide (d.2.2 ≤ rDays))))
 (k false))
 (k false))
 (k false))
 (k false))
 (k false)
def zqyq : zqyo := hid zqyp
noncomputable def zqyr : En := ⟨210, .spec (sg [b70y] [] [b30y] [] zqyq), pf [zqyn] [] [.tmp 2] Tryz.func210 (by kernel_rfl) fun _ _ => by kernel_rfl⟩
abbrev zqys := {β : Type} → zqw → t21y → (zqu → Int → Option β) → Option β
noncomputable def zqyt : List En := [zq4j, zqqw, zq4n, zq46]
abbrev zqyu (β : Type) := zqw → zqu → zqu → Option β
abbrev zqyv (β : Type) := t21y → Int → zqw → zqu → zqu → t3y → Option β
noncomputable def zqyw : Pc := ⟨158, 0, Q1 250 (Q2 Tryz.f13), ⟨0, [1, 2, 4, 6, 7, 8], [b57y, b29y, b34y, b37y, b62y, b27y], [b32y, b36y, b36y, .row 3 (.int .i64)]⟩, [(.exit 0, ⟨0, [2, 4, 6], [b29y, b34y, b37y], [b32y, b36y, b36y]⟩)]⟩
abbrev zqyx (β : Type) := zqu → zqu → Option β
abbrev zqyy (β : Type) := Int → zqw → zqu → zqu → Option β
noncomputable def zqyz : Pc := ⟨158, 0, Q1 506 (Q2 Tryz.f13), ⟨0, [2, 4, 6, 12], [b29y, b34y, b37y, b27y], [b32y, b36y, b36y]⟩, [(.exit 4, ⟨0, [4, 6], [b29y, b34y], [b36y, b36y]⟩)]⟩
abbrev zqz0 (β : Type) := t21y → Int → zqw → zqu → zqu → t3y → zqy → Option β
abbrev zqz1 (β : Type) := t21y → Int → Int → zqw → zqu → zqu → t3y → zqy → Option β
noncomputable def zqz2 : Pc := ⟨158, 0, Q1 1658 (Qb zqyw.c), ⟨0, [1, 2, 4, 6, 7, 8, 9, 11], [b57y, b29y, b34y, b37y, b62y, b27y, b78y, b27y], [b32y, b36y, b36y, .row 3 (.int .i64), b38y]⟩, [(.exit 2, ⟨0, [1, 2, 4, 6, 7, 8, 9], [b57y, b29y, b34y, b37y, b62y, b27y, b78y], [b32y, b36y, b36y, .row 3 (.int .i64), b38y]⟩)]⟩
abbrev zqz3 (β : Type) := t21y → Int → zqw → zqu → zqu → t3y → Option β
abbrev zqz4 (β : Type) := t21y → Int → zqw → zqu → zqu → t3y → zqy → Option β
noncomputable def zqz5 : Pc := ⟨158, 0, Q1 207 (Qb zqyw.c), ⟨0, [1, 2, 4, 6, 7, 8, 9], [b57y, b29y, b34y, b37y, b62y, b27y, b78y], [b32y, b36y, b36y, .row 3 (.int .i64), b38y]⟩, [(.normal, ⟨0, [1, 2, 4, 6, 7, 8], [b57y, b29y, b34y, b37y, b62y, b27y], [b32y, b36y, b36y, .row 3 (.int .i64)]⟩)]⟩
abbrev zqz6 (β : Type) := Int → zqw → zqu → zqu → Option β
abbrev zqz7 (β : Type) := Int → Int → zqw → zqu → zqu → Option β
noncomputable def zqz8 : Pc := ⟨158, 0, Q1 51 (Qb zqyz.c), ⟨0, [2, 4, 6, 12, 13], [b29y, b34y, b37y, b27y, b27y], [b32y, b36y, b36y]⟩, [(.normal, ⟨0, [2, 4, 6, 12], [b29y, b34y, b37y, b27y], [b32y, b36y, b36y]⟩)]⟩
def zqz9 {β : Type} (rec : zqz1 β) (k1 : zqz0 β) : zqz1 β := fun l i_ k_ x t4 out seen p_ =>
 cond (decide (k_ < (List.length p_.2.2.2.2.2.2.2.2.2.2.2.1 : Int)))
 (cond (decide (0 ≤ k_) && decide (k_ < (List.length p_.2.2.2.2.2.2.2.2.2.2.2.1 : Int)))
 (let e : t4y := List.getD p_.2.2.2.2.2.2.2.2.2.2.2.1 (Int.toNat k_) ((0 : Int), ((0 : Int), ([] : List Int)));
 let k_2 : Int := (IntKind.i64.wrap (k_ + (1 : Int)));
 rec l i_ k_2 x t4 (out.1, (out.2.1, (out.2.2.1, (out.2.2.2.1, (out.2.2.2.2.1, ((IntKind.i64.wrap (out.2.2.2.2.2.1 + (List.length e.2.2 : Int))), out.2.2.2.2.2.2)))))) seen p_)
 none)
 (k1 l i_ x t4 out seen p_)
def zqza (m : Nat) {β : Type} (k1 : zqz0 β) : zqz1 β := lp8 (fun r => zqz9 r k1) none m
theorem zqzb {β : Type} (i : Nat) (k1) : zqza (β := β) (i + 1) k1 = zqz9 (zqza i k1) k1 := rfl
def zqzc {β : Type} := hid (zqza (β := β) fuel)
noncomputable def zqzd : Pb := ⟨1658, zqz2, fun _ => zqzc, pl (p := zqz2) zqyt [] (g := fun i _ => zqza i) (by kernel_rfl) rfl (by kernel_rfl) (fun _ _ => rfl) fun _ _ _ _ => by kernel_rfl⟩
def zqze {β : Type} (k1 : zqz3 β) : zqz4 β := fun l i_ x t4 out seen p_ =>
 zqzc (fun (l2 : List zqy) (i_2 : Int) (x2 : zqw) (t42 : zqu) (out2 : zqu) (seen2 : List Int) (p_2 : zqy) =>
 k1 l2 i_2 x2 t42 (out2.1, (out2.2.1, (out2.2.2.1, (out2.2.2.2.1, ((IntKind.i64.wrap (out2.2.2.2.2.1 + (1 : Int))), (out2.2.2.2.2.2.1, (IntKind.i64.wrap (out2.2.2.2.2.2.2 + (List.length p_2.2.2.2.2.2.2.2.2.2.2.2.2.1 : Int))))))))) seen2) l i_ (0 : Int) x t4 out seen p_
def zqzf {β : Type} := hid (zqze (β := β))
noncomputable def zqzg : Pb := ⟨207, zqz5, fun _ => zqzf, pe (p := zqz5) zqyt [zqzd] 207 (g := fun _ => zqze) (by kernel_rfl) fun _ _ => by kernel_rfl⟩
def zqzh {β : Type} (rec : zqyv β) (k1 : zqyu β) : zqyv β := fun l i_ x t4 out seen =>
 cond (decide (i_ < (List.length l : Int)))
 (cond (decide (0 ≤ i_) && decide (i_ < (List.length l : Int)))
 (let e : zqy := List.getD l (Int.toNat i_) ((0 : Int), ((0 : Int), ((0 : Int), ((0 : Int), ((0 : Int), ((0 : Int), ((0 : Int), ((0 : Int), ((0 : Int), ((0 : Int), ((0 : Int), (([] : List t4y), (([] : List Int), ([] : List Int))))))))))))));
 zq4i x.2.2.2.2.2.2.1 e.1 (fun (rHas : Bool) =>
 cond (!rHas)
 (let i_2 : Int := (IntKind.i64.wrap (i_ + (1 : Int)));
 rec l i_2 x t4 out seen)
 (zq4i seen e.1 (fun (rHas2 : Bool) =>
 cond rHas2
 (let i_2 : Int := (IntKind.i64.wrap (i_ + (1 : Int)));
 rec l i_2 x t4 out seen)
 (let l2 : List Int := ([e.1] : List Int);
 cond (decide ((List.length seen + List.length l2) * 8 ≤ Q5))
 (let l3 : List Int := (seen ++ l2);
 let n : Int := (if (0 : Int) > (IntKind.i64.wrap (e.2.2.2.2.2.2.2.2.1 - x.2.2.2.1)) then (0 : Int) else (IntKind.i64.wrap (e.2.2.2.2.2.2.2.2.1 - x.2.2.2.1)));
 cond (decide (e.2.2.2.2.2.1 = (1 : Int)))
 (cond (decide (out.2.1.2 < (0 : Int)))
 (zq4m n (fun (rexactly : t0y) =>
 zqzf (fun (l4 : List zqy) (i_2 : Int) (x2 : zqw) (t42 : zqu) (out2 : zqu) (seen2 : List Int) =>
 let i_3 : Int := (IntKind.i64.wrap (i_2 + (1 : Int)));
 rec l4 i_3 x2 t42 out2 seen2) l i_ x t4 (out.1, (rexactly, out.2.2)) l3 e))
 (cond (decide (n < out.2.1.1))
 (zq4m n (fun (rexactly : t0y) =>
 zqzf (fun (l4 : List zqy) (i_2 : Int) (x2 : zqw) (t42 : zqu) (out2 : zqu) (seen2 : List Int) =>
 let i_3 : Int := (IntKind.i64.wrap (i_2 + (1 : Int)));
 rec l4 i_3 x2 t42 out2 seen2) l i_ x t4 (out.1, (rexactly, out.2.2)) l3 e))
 (zqzf (fun (l4 : List zqy) (i_2 : Int) (x2 : zqw) (t42 : zqu) (out2 : zqu) (seen2 : List Int) =>
 let i_3 : Int := (IntKind.i64.wrap (i_2 + (1 : Int)));
 rec l4 i_3 x2 t42 out2 seen2) l i_ x t4 out l3 e)))
 (zqzf (fun (l4 : List zqy) (i_2 : Int) (x2 : zqw) (t42 : zqu) (out2 : zqu) (seen2 : List Int) =>
 let i_3 : Int := (IntKind.i64.wrap (i_2 + (1 : Int)));
 rec l4 i_3 x2 t42 out2 seen2) l i_ x t4 out l3 e))
 none)))))
 none)
 (k1 x t4 out)
def zqzi (m : Nat) {β : Type} (k1 : zqyu β) : zqyv β := lp6 (fun r => zqzh r k1) none m
theorem zqzj {β : Type} (i : Nat) (k1) : zqzi (β := β) (i + 1) k1 = zqzh (zqzi i k1) k1 := rfl
def zqzk {β : Type} := hid (zqzi (β := β) fuel)
noncomputable def zqzl : Pb := ⟨250, zqyw, fun _ => zqzk, pl (p := zqyw) zqyt [zqzg] (g := fun i _ => zqzi i) (by kernel_rfl) rfl (by kernel_rfl) (fun _ _ => rfl) fun _ _ _ _ => by kernel_rfl⟩
def zqzm {β : Type} (k1 : zqz6 β) : zqz7 β := fun i_ n x t4 out =>
 cond (decide (0 ≤ i_) && decide (i_ < (List.length x.2.2.2.2.2.2.2.2.2.2.1 : Int)))
 (let e : t2y := List.getD x.2.2.2.2.2.2.2.2.2.2.1 (Int.toNat i_) ((0 : Int), ((0 : Int), (0 : Int)));
 cond (decide (e.2.1 = (2 : Int)))
 (cond (decide (x.2.1 = (2 : Int)))
 (zq4m n (fun (rexactly : t0y) =>
 k1 i_ x t4 (out.1, (out.2.1, (out.2.2.1, (rexactly, out.2.2.2.2))))))
 (cond (decide (x.2.1 = (3 : Int)))
 (zq4m n (fun (rexactly : t0y) =>
 k1 i_ x t4 (out.1, (out.2.1, (out.2.2.1, (rexactly, out.2.2.2.2))))))
 (k1 i_ x t4 out)))
 (k1 i_ x t4 out))
 none
def zqzn {β : Type} := hid (zqzm (β := β))
noncomputable def zqzo : Pb := ⟨51, zqz8, fun _ => zqzn, pe (p := zqz8) zqyt [] 51 (g := fun _ => zqzm) (by kernel_rfl) fun _ _ => by kernel_rfl⟩
def zqzp {β : Type} (rec : zqyy β) (k1 : zqyx β) : zqyy β := fun i_ x t4 out =>
 cond (decide (i_ < (List.length x.2.2.2.2.2.2.2.2.2.2.1 : Int)))
 (cond (decide (0 ≤ i_) && decide (i_ < (List.length x.2.2.2.2.2.2.2.2.2.2.1 : Int)))
 (let e : t2y := List.getD x.2.2.2.2.2.2.2.2.2.2.1 (Int.toNat i_) ((0 : Int), ((0 : Int), (0 : Int)));
 let n : Int := (IntKind.i64.wrap (e.1 - x.2.2.2.1));
 cond (decide (0 ≤ i_) && decide (i_ < (List.length x.2.2.2.2.2.2.2.2.2.2.1 : Int)))
 (let e2 : t2y := List.getD x.2.2.2.2.2.2.2.2.2.2.1 (Int.toNat i_) ((0 : Int), ((0 : Int), (0 : Int)));
 cond (decide (e2.2.1 = (1 : Int)))
 (cond (decide (out.2.2.1.2 < (0 : Int)))
 (zq4m n (fun (rexactly : t0y) =>
 zqzn (fun (i_2 : Int) (x2 : zqw) (t42 : zqu) (out2 : zqu) =>
 let i_3 : Int := (IntKind.i64.wrap (i_2 + (1 : Int)));
 rec i_3 x2 t42 out2) i_ n x t4 (out.1, (out.2.1, (rexactly, out.2.2.2)))))
 (zqzn (fun (i_2 : Int) (x2 : zqw) (t42 : zqu) (out2 : zqu) =>
 let i_3 : Int := (IntKind.i64.wrap (i_2 + (1 : Int)));
 rec i_3 x2 t42 out2) i_ n x t4 out))
 (zqzn (fun (i_2 : Int) (x2 : zqw) (t42 : zqu) (out2 : zqu) =>
 let i_3 : Int := (IntKind.i64.wrap (i_2 + (1 : Int)));
 rec i_3 x2 t42 out2) i_ n x t4 out))
 none)
 none)
 (k1 t4 out)
def zqzq (m : Nat) {β : Type} (k1 : zqyx β) : zqyy β := lp4 (fun r => zqzp r k1) none m
theorem zqzr {β : Type} (i : Nat) (k1) : zqzq (β := β) (i + 1) k1 = zqzp (zqzq i k1) k1 := rfl
def zqzs {β : Type} := hid (zqzq (β := β) fuel)
noncomputable def zqzt : Pb := ⟨506, zqyz, fun _ => zqzs, pl (p := zqyz) zqyt [zqzo] (g := fun i _ => zqzq i) (by kernel_rfl) rfl (by kernel_rfl) (fun _ _ => rfl) fun _ _ _ _ => by kernel_rfl⟩
def zqzu : zqys := fun x l k =>
 zqqv x (fun (rCheck : Bool) =>
 cond (!rCheck)
 (k zq1e (8 : Int))
 (zq45  (fun (rnone : t0y) =>
 zq45  (fun (rnone2 : t0y) =>
 zq45  (fun (rnone3 : t0y) =>
 zqzk (fun (x2 : zqw) (t4 : zqu) (out : zqu) =>
 zqzs (fun (t42 : zqu) (out2 : zqu) =>
 k out2 (0 : Int)) (0 : Int) x2 t4 out) l (0 : Int) x zq1e (x.1, (rnone, (rnone2, (rnone3, ((0 : Int), ((0 : Int), (0 : Int))))))) ([] : List Int))))))
def zqzv : zqys := hid zqzu
noncomputable def zqzw : En := ⟨13, .spec (sg [b43y, b57y] [] [(true, [.data zqv]), b27y] [] zqzv), pf zqyt [zqzl, zqzt] [.cell 4 59, .tmp 5] Tryz.func13 (by kernel_rfl) fun _ _ => by kernel_rfl⟩
abbrev zqzx := {β : Type} → t10y → (t0y → Int → Option β) → Option β
noncomputable def zqzy : List En := [zqra]
abbrev zqzz (β : Type) := t0y → t0y → Option β
abbrev zq100 (β : Type) := t10y → Int → t0y → t0y → Option β
noncomputable def zq101 : Pc := ⟨38, 0, Q1 122 (Q2 Tryz.f21), ⟨0, [0, 2, 5, 6], [b31y, b29y, b34y, b27y], [b41y, b41y]⟩, [(.exit 0, ⟨0, [2, 5], [b29y, b34y], [b41y, b41y]⟩)]⟩
def zq102 {β : Type} (rec : zq100 β) (k1 : zqzz β) : zq100 β := fun l i_ t2 out =>
 cond (decide (i_ < (List.length l : Int)))
 (cond (decide (0 ≤ i_) && decide (i_ < (List.length l : Int)))
 (let e : t0y := List.getD l (Int.toNat i_) ((0 : Int), (0 : Int));
 cond (decide (0 ≤ i_) && decide (i_ < (List.length l : Int)))
 (let e2 : t0y := List.getD l (Int.toNat i_) ((0 : Int), (0 : Int));
 let i_2 : Int := (IntKind.i64.wrap (i_ + (1 : Int)));
 rec l i_2 t2 ((IntKind.i64.wrap (out.1 + e.1)), (IntKind.i64.wrap (out.2 + e2.2))))
 none)
 none)
 (k1 t2 out)
def zq103 (m : Nat) {β : Type} (k1 : zqzz β) : zq100 β := lp4 (fun r => zq102 r k1) none m
theorem zq104 {β : Type} (i : Nat) (k1) : zq103 (β := β) (i + 1) k1 = zq102 (zq103 i k1) k1 := rfl
def zq105 {β : Type} := hid (zq103 (β := β) fuel)
noncomputable def zq106 : Pb := ⟨122, zq101, fun _ => zq105, pl (p := zq101) zqzy [] (g := fun i _ => zq103 i) (by kernel_rfl) rfl (by kernel_rfl) (fun _ _ => rfl) fun _ _ _ _ => by kernel_rfl⟩
def zq107 : zqzx := fun l k =>
 zqr9 l (fun (rfine : Int) =>
 cond (!decide (rfine = (0 : Int)))
 (k ((0 : Int), (0 : Int)) rfine)
 (zq105 (fun (t2 : t0y) (out : t0y) =>
 k out (0 : Int)) l (0 : Int) ((0 : Int), (0 : Int)) ((0 : Int), (0 : Int))))
def zq108 : zqzx := hid zq107
noncomputable def zq109 : En := ⟨21, .spec (sg [b31y] [] [b35y, b27y] [] zq108), pf zqzy [zq106] [.cell 2 57, .tmp 3] Tryz.func21 (by kernel_rfl) fun _ _ => by kernel_rfl⟩
abbrev zq10a := {β : Type} → t10y → (t0y → t0y → Int → Option β) → Option β
def zq10b : zq10a := fun l k =>
 cond (decide ((List.length l : Int) = (0 : Int)))
 (k ((0 : Int), (0 : Int)) ((0 : Int), (0 : Int)) (7 : Int))
 (zq108 l (fun (rSum : t0y) (rSum2 : Int) =>
 cond (!decide (rSum2 = (0 : Int)))
 (k ((0 : Int), (0 : Int)) ((0 : Int), (0 : Int)) rSum2)
 (zqrh rSum.1 (List.length l : Int) (fun (rNew : t0y) (rNew2 : Int) =>
 zqrh rSum.2 (List.length l : Int) (fun (rNew3 : t0y) (rNew4 : Int) =>
 k rNew rNew3 (0 : Int))))))
def zq10c : zq10a := hid zq10b
noncomputable def zq10d : En := ⟨23, .spec (sg [b31y] [] [b35y, b35y, b27y] [] zq10c), pf [zqri, zq109] [] [.cell 2 83, .cell 3 83, .tmp 4] Tryz.func23 (by kernel_rfl) fun _ _ => by kernel_rfl⟩
abbrev zq10e := {β : Type} → t10y → Int → Int → (t0y → Int → Option β) → Option β
noncomputable def zq10f : List En := [zq57, zqra, zq5j]
abbrev zq10g (β : Type) := t10y → Int → Int → t0y → t3y → t3y → Option β
abbrev zq10h (β : Type) := t10y → Int → Int → Int → t0y → t3y → t3y → Option β
noncomputable def zq10i : Pc := ⟨74, 0, Q1 506 (Q2 Tryz.f25), ⟨0, [0, 1, 2, 6, 9, 10, 11], [b31y, b27y, b27y, b29y, b45y, b52y, b27y], [b41y, .row 3 (.int .i64), .row 3 (.int .i64)]⟩, [(.exit 0, ⟨0, [0, 1, 2, 6, 9, 10], [b31y, b27y, b27y, b29y, b45y, b52y], [b41y, .row 3 (.int .i64), .row 3 (.int .i64)]⟩)]⟩
def zq10j {β : Type} (rec : zq10h β) (k1 : zq10g β) : zq10h β := fun l num den i_ t6 low high =>
 cond (decide (i_ < (List.length l : Int)))
 (cond (decide (0 ≤ i_) && decide (i_ < (List.length l : Int)))
 (let e : t0y := List.getD l (Int.toNat i_) ((0 : Int), (0 : Int));
 zq5i low e.1 (fun (lrsorted : List Int) =>
 cond (decide (0 ≤ i_) && decide (i_ < (List.length l : Int)))
 (let e2 : t0y := List.getD l (Int.toNat i_) ((0 : Int), (0 : Int));
 zq5i high e2.2 (fun (lrsorted2 : List Int) =>
 let i_2 : Int := (IntKind.i64.wrap (i_ + (1 : Int)));
 rec l num den i_2 t6 lrsorted lrsorted2))
 none))
 none)
 (k1 l num den t6 low high)
def zq10k (m : Nat) {β : Type} (k1 : zq10g β) : zq10h β := lp7 (fun r => zq10j r k1) none m
theorem zq10l {β : Type} (i : Nat) (k1) : zq10k (β := β) (i + 1) k1 = zq10j (zq10k i k1) k1 := rfl
def zq10m {β : Type} := hid (zq10k (β := β) fuel)
noncomputable def zq10n : Pb := ⟨506, zq10i, fun _ => zq10m, pl (p := zq10i) zq10f [] (g := fun i _ => zq10k i) (by kernel_rfl) rfl (by kernel_rfl) (fun _ _ => rfl) fun _ _ _ _ => by kernel_rfl⟩
def zq10o : zq10e := fun l num den k =>
 cond (decide ((List.length l : Int) = (0 : Int)))
 (k ((0 : Int), (0 : Int)) (7 : Int))
 (zqr9 l (fun (rfine : Int) =>
 cond (!decide (rfine = (0 : Int)))
 (k ((0 : Int), (0 : Int)) rfine)
 (zq56 den (1 : Int) (1000 : Int) (fun (rIn : Bool) =>
 cond (!rIn)
 (k ((0 : Int), (0 : Int)) (1 : Int))
 (zq56 num (0 : Int) den (fun (rIn2 : Bool) =>
 cond (!rIn2)
 (k ((0 : Int), (0 : Int)) (1 : Int))
 (zq10m (fun (l2 : List t0y) (num2 : Int) (den2 : Int) (t6 : t0y) (low : List Int) (high : List Int) =>
 cond (!decide (den2 = 0))
 (let k_ : Int := (if (1 : Int) > (IntKind.i64.wrap (Int.tdiv (IntKind.i64.wrap ((IntKind.i64.wrap ((IntKind.i64.wrap (num2 * (List.length l2 : Int))) + den2)) - (1 : Int))) den2)) then (1 : Int) else (IntKind.i64.wrap (Int.tdiv (IntKind.i64.wrap ((IntKind.i64.wrap ((IntKind.i64.wrap (num2 * (List.length l2 : Int))) + den2)) - (1 : Int))) den2)));
 cond (decide (0 ≤ (IntKind.i64.wrap (k_ - (1 : Int)))) && decide ((IntKind.i64.wrap (k_ - (1 : Int))) < (List.length low : Int)))
 (cond (decide (0 ≤ (IntKind.i64.wrap (k_ - (1 : Int)))) && decide ((IntKind.i64.wrap (k_ - (1 : Int))) < (List.length high : Int)))
 (k ((List.getD low (Int.toNat (IntKind.i64.wrap (k_ - (1 : Int)))) (0 : Int)), (List.getD high (Int.toNat (IntKind.i64.wrap (k_ - (1 : Int)))) (0 : Int))) (0 : Int))
 none)
 none)
 none) l num den (0 : Int) ((0 : Int), (0 : Int)) ([] : List Int) ([] : List Int))))))))
def zq10p : zq10e := hid zq10o
noncomputable def zq10q : En := ⟨25, .spec (sg [b31y, b27y, b27y] [] [b35y, b27y] [] zq10p), pf zq10f [zq10n] [.cell 6 57, .tmp 7] Tryz.func25 (by kernel_rfl) fun _ _ => by kernel_rfl⟩
abbrev zq10r := {β : Type} → Int → Int → Int → t7y → Int → (zqw → Int → Option β) → Option β
noncomputable def zq10s : List En := [zqqw]
abbrev zq10t (β : Type) := Int → Int → Int → Int → Int → t7y → Int → Int → Int → t25y → t20y → t3y → t9y → Int → t3y → Option β
abbrev zq10u (β : Type) := zqw → Int → Int → Int → Int → t7y → Int → Int → Int → t25y → t20y → t3y → t9y → Int → t3y → Option β
noncomputable def zq10v : Pc := ⟨29, 0, Q1 15 (Q2 Tryz.f30), ⟨0, [10, 12], [b29y, b34y], [b32y, .cells 46 [.data (.int .i64), .data (.int .i64), .data (.int .i64), .data (.int .i64), .data .str, .data (.int .i64), .data (.int .i64), .data (.int .i64), .rowh 2, .data (.slice zqr), .data (.slice zqt), .data (.slice (.int .i64)), .data (.slice (.prod (.int .i64) (.prod (.int .i64) (.int .i64)))), .data (.int .i64)], .row 3 (.int .i64)]⟩, [(.ret, ⟨0, [10, 11], [b29y, b27y], [.cells 46 [.data (.int .i64), .data (.int .i64), .data (.int .i64), .data (.int .i64), .data .str, .data (.int .i64), .data (.int .i64), .data (.int .i64), .rowh 1, .data (.slice zqr), .data (.slice zqt), .data (.slice (.int .i64)), .data (.slice (.prod (.int .i64) (.prod (.int .i64) (.int .i64)))), .data (.int .i64)], .row 3 (.int .i64)]⟩)]⟩
def zq10w {β : Type} (k1 : zq10t β) : zq10u β := fun t10 x x2 x3 x4 x5 x6 x7 x8 x9 x10 x11 x12 x13 b2_ =>
 zqqv (x, (x2, (x3, (x4, (x5, ((x6, (x7, x8)), (b2_, (x9, (x10, (x11, (x12, x13))))))))))) (fun (rCheck : Bool) =>
 cond (!rCheck)
 (k1 (8 : Int) (0 : Int) (0 : Int) (0 : Int) (0 : Int) ([] : List UInt8) (0 : Int) (0 : Int) (0 : Int) ([] : List zqq) ([] : List zqs) ([] : List Int) ([] : List t2y) (0 : Int) ([] : List Int))
 (k1 (0 : Int) x x2 x3 x4 x5 x6 x7 x8 x9 x10 x11 x12 x13 b2_))
def zq10x {β : Type} := hid (zq10w (β := β))
noncomputable def zq10y : Pb := ⟨15, zq10v, fun _ => zq10x, pe (p := zq10v) zq10s [] 15 (g := fun _ => zq10w) (by kernel_rfl) fun _ _ => by kernel_rfl⟩
def zq10z : zq10r := fun id at_ severity title page k =>
 cond (!decide (page = (0 : Int)))
 (let l : List Int := ([page] : List Int);
 zq10x (fun (t11 : Int) (t10 : Int) (t102 : Int) (t103 : Int) (t104 : Int) (t105 : List UInt8) (t106 : Int) (t107 : Int) (t108 : Int) (t109 : List zqq) (t1010 : List zqs) (t1011 : List Int) (t1012 : List t2y) (t1013 : Int) (b1_ : List Int) =>
 k (t10, (t102, (t103, (t104, (t105, ((t106, (t107, t108)), (b1_, (t109, (t1010, (t1011, (t1012, t1013))))))))))) t11) zq1h id (0 : Int) severity at_ title (-1 : Int) (-1 : Int) (-1 : Int) ([] : List zqq) ([] : List zqs) ([] : List Int) ([] : List t2y) (0 : Int) l)
 (zq10x (fun (t11 : Int) (t10 : Int) (t102 : Int) (t103 : Int) (t104 : Int) (t105 : List UInt8) (t106 : Int) (t107 : Int) (t108 : Int) (t109 : List zqq) (t1010 : List zqs) (t1011 : List Int) (t1012 : List t2y) (t1013 : Int) (b1_ : List Int) =>
 k (t10, (t102, (t103, (t104, (t105, ((t106, (t107, t108)), (b1_, (t109, (t1010, (t1011, (t1012, t1013))))))))))) t11) zq1h id (0 : Int) severity at_ title (-1 : Int) (-1 : Int) (-1 : Int) ([] : List zqq) ([] : List zqs) ([] : List Int) ([] : List t2y) (0 : Int) ([] : List Int))
def zq110 : zq10r := hid zq10z
noncomputable def zq111 : En := ⟨30, .spec (sg [b27y, b27y, b27y, b63y, b27y] [] [b43y, b27y] [] zq110), pf zq10s [zq10y] [.cell 10 46, .tmp 11] Tryz.func30 (by kernel_rfl) fun _ _ => by kernel_rfl⟩
abbrev zq112 := {β : Type} → zqw → Int → Int → (zqw → Int → Option β) → Option β
def zq113 : zq112 := fun x role who k =>
 zqrp x (fun (rready : Int) =>
 cond (!decide (rready = (0 : Int)))
 (k zq1h rready)
 (zq56 role (0 : Int) (2 : Int) (fun (rIn : Bool) =>
 cond (!rIn)
 (k zq1h (1 : Int))
 (zq5m who true (fun (rperson : Bool) =>
 cond (!rperson)
 (k zq1h (1 : Int))
 (zq5y x (fun (rCopy : Int) (rCopy2 : Int) (rCopy3 : Int) (rCopy4 : Int) (rCopy5 : List UInt8) (rCopy6 : Int) (rCopy7 : Int) (rCopy8 : Int) (rCopy9 : Int) (lrCopy : List Int) (lrCopy2 : List zqq) (lrCopy3 : List zqs) (lrCopy4 : List Int) (lrCopy5 : List t2y) =>
 cond (decide (role = (0 : Int)))
 (k (rCopy, (rCopy2, (rCopy3, (rCopy4, (rCopy5, ((who, (rCopy7, rCopy8)), (lrCopy, (lrCopy2, (lrCopy3, (lrCopy4, (lrCopy5, rCopy9))))))))))) (0 : Int))
 (cond (decide (role = (1 : Int)))
 (k (rCopy, (rCopy2, (rCopy3, (rCopy4, (rCopy5, ((rCopy6, (who, rCopy8)), (lrCopy, (lrCopy2, (lrCopy3, (lrCopy4, (lrCopy5, rCopy9))))))))))) (0 : Int))
 (cond (decide (role = (2 : Int)))
 (k (rCopy, (rCopy2, (rCopy3, (rCopy4, (rCopy5, ((rCopy6, (rCopy7, who)), (lrCopy, (lrCopy2, (lrCopy3, (lrCopy4, (lrCopy5, rCopy9))))))))))) (0 : Int))
 (none))))))))))
def zq114 : zq112 := hid zq113
noncomputable def zq115 : En := ⟨31, .spec (sg [b43y, b27y, b27y] [] [b43y, b27y] [] zq114), pf [zq57, zq5z, zq5n, zqrq] [] [.cell 6 46, .tmp 7] Tryz.func31 (by kernel_rfl) fun _ _ => by kernel_rfl⟩
abbrev zq116 := {β : Type} → zqw → Int → Int → Int → (zqw → Int → Option β) → Option β
noncomputable def zq117 : List En := [zq57, zq6d, zq69, zq6h, zq5n, zqrq]
abbrev zq118 (β : Type) := Int → zqw → Option β
abbrev zq119 (β : Type) := Int → Int → Int → zqw → zqw → Option β
abbrev zq11a (β : Type) := Int → Int → Int → Bool → zqw → zqw → Option β
noncomputable def zq11b : Pc := ⟨51, 0, Q1 231 (Q2 Tryz.f32), ⟨0, [1, 2, 3, 4, 8, 29], [b27y, b27y, b27y, b29y, b34y, b30y], [b32y, b32y]⟩, [(.ret, ⟨0, [8, 9], [b29y, b27y], [b32y]⟩), (.normal, ⟨0, [1, 2, 3, 4, 8], [b27y, b27y, b27y, b29y, b34y], [b32y, b32y]⟩)]⟩
abbrev zq11c (β : Type) := Int → zqw → Option β
abbrev zq11d (β : Type) := Int → Int → Int → zqw → zqw → Option β
abbrev zq11e (β : Type) := Int → Int → Int → Bool → zqw → zqw → Option β
noncomputable def zq11f : Pc := ⟨51, 0, Q1 57 (Q2 Tryz.f32), ⟨0, [1, 2, 3, 4, 8, 17], [b27y, b27y, b27y, b29y, b34y, b30y], [b32y, b32y]⟩, [(.ret, ⟨0, [8, 9], [b29y, b27y], [b32y]⟩), (.normal, ⟨0, [1, 2, 3, 4, 8], [b27y, b27y, b27y, b29y, b34y], [b32y, b32y]⟩)]⟩
def zq11g {β : Type} (k1 : zq118 β) (k2 : zq119 β) : zq11a β := fun at_ to_ who t29 x t8 =>
 cond t29
 (k1 (9 : Int) zq1h)
 (let t : Bool := (decide ((32 : Int) ≤ (List.length x.2.2.2.2.2.2.2.2.2.2.1 : Int)));
 cond t
 (k1 (5 : Int) zq1h)
 (k2 at_ to_ who x t8))
def zq11h {β : Type} := hid (zq11g (β := β))
noncomputable def zq11i : Pb := ⟨231, zq11b, fun _ => zq11h, pe (p := zq11b) zq117 [] 231 (g := fun _ => zq11g) (by kernel_rfl) fun _ _ => by kernel_rfl⟩
def zq11j {β : Type} (k1 : zq11c β) (k2 : zq11d β) : zq11e β := fun at_ to_ who t17 x t8 =>
 cond t17
 (k1 (1 : Int) zq1h)
 (cond (decide (to_ = (4 : Int)))
 (zq11h (fun (t9 : Int) (t82 : zqw) =>
 k1 t9 t82) (fun (at_2 : Int) (to_2 : Int) (who2 : Int) (x2 : zqw) (t82 : zqw) =>
 k2 at_2 to_2 who2 x2 t82) at_ to_ who true x t8)
 (zq6c x.2.1 to_ (fun (rPossible : Bool) =>
 zq11h (fun (t9 : Int) (t82 : zqw) =>
 k1 t9 t82) (fun (at_2 : Int) (to_2 : Int) (who2 : Int) (x2 : zqw) (t82 : zqw) =>
 k2 at_2 to_2 who2 x2 t82) at_ to_ who (!rPossible) x t8)))
def zq11k {β : Type} := hid (zq11j (β := β))
noncomputable def zq11l : Pb := ⟨57, zq11f, fun _ => zq11k, pe (p := zq11f) zq117 [zq11i] 57 (g := fun _ => zq11j) (by kernel_rfl) fun _ _ => by kernel_rfl⟩
def zq11m : zq116 := fun x at_ to_ who k =>
 zqrp x (fun (rready : Int) =>
 cond (!decide (rready = (0 : Int)))
 (k zq1h rready)
 (zq68 x (fun (rlast : Int) =>
 zq56 at_ rlast (8589934592 : Int) (fun (rIn : Bool) =>
 cond (!rIn)
 (zq11k (fun (t9 : Int) (t8 : zqw) =>
 k t8 t9) (fun (at_2 : Int) (to_2 : Int) (who2 : Int) (x2 : zqw) (t8 : zqw) =>
 zq6g x2 at_2 to_2 who2 (fun (rmove : zqw) =>
 k rmove (0 : Int))) at_ to_ who true x zq1h)
 (zq5m who true (fun (rperson : Bool) =>
 zq11k (fun (t9 : Int) (t8 : zqw) =>
 k t8 t9) (fun (at_2 : Int) (to_2 : Int) (who2 : Int) (x2 : zqw) (t8 : zqw) =>
 zq6g x2 at_2 to_2 who2 (fun (rmove : zqw) =>
 k rmove (0 : Int))) at_ to_ who (!rperson) x zq1h))))))
def zq11n : zq116 := hid zq11m
noncomputable def zq11o : En := ⟨32, .spec (sg [b43y, b27y, b27y, b27y] [] [b43y, b27y] [] zq11n), pf zq117 [zq11l] [.cell 8 46, .tmp 9] Tryz.func32 (by kernel_rfl) fun _ _ => by kernel_rfl⟩
abbrev zq11p := {β : Type} → zqw → Int → Int → t7y → (zqw → Int → Option β) → Option β
noncomputable def zq11q : List En := [zq57, zq5z, zq6v, zq5n, zqrq]
abbrev zq11r (β : Type) := Int → Int → Int → Int → Int → t7y → Int → Int → Int → Int → t3y → t25y → t20y → t3y → t9y → Option β
abbrev zq11s (β : Type) := Int → Int → t7y → zqw → zqw → Option β
noncomputable def zq11t : Pc := ⟨53, 0, Q1 15 (Q2 Tryz.f33), ⟨0, [1, 2, 3, 4, 8], [b27y, b27y, b63y, b29y, b34y], [b32y, b32y]⟩, [(.ret, ⟨0, [8, 9], [b29y, b27y], [.cells 46 [.data (.int .i64), .data (.int .i64), .data (.int .i64), .data (.int .i64), .data .str, .data (.int .i64), .data (.int .i64), .data (.int .i64), .rowh 1, .rowh 2, .rowh 3, .rowh 4, .rowh 5, .data (.int .i64)], .row 3 (.int .i64), .row 177 zqr, .row 179 zqt, .row 3 (.int .i64), .row 146 (.prod (.int .i64) (.prod (.int .i64) (.int .i64)))]⟩)]⟩
abbrev zq11u (β : Type) := Int → zqw → Option β
abbrev zq11v (β : Type) := Int → Int → t7y → zqw → zqw → Option β
abbrev zq11w (β : Type) := Int → Int → t7y → Bool → zqw → zqw → Option β
noncomputable def zq11x : Pc := ⟨53, 0, Q1 57 (Q2 Tryz.f33), ⟨0, [1, 2, 3, 4, 8, 18], [b27y, b27y, b63y, b29y, b34y, b30y], [b32y, b32y]⟩, [(.ret, ⟨0, [8, 9], [b29y, b27y], [b32y]⟩), (.normal, ⟨0, [1, 2, 3, 4, 8], [b27y, b27y, b63y, b29y, b34y], [b32y, b32y]⟩)]⟩
def zq11y {β : Type} (k1 : zq11r β) : zq11s β := fun at_ who text x t8 =>
 zq5y x (fun (rCopy : Int) (rCopy2 : Int) (rCopy3 : Int) (rCopy4 : Int) (rCopy5 : List UInt8) (rCopy6 : Int) (rCopy7 : Int) (rCopy8 : Int) (rCopy9 : Int) (lrCopy : List Int) (lrCopy2 : List zqq) (lrCopy3 : List zqs) (lrCopy4 : List Int) (lrCopy5 : List t2y) =>
 let l : List zqq := ([(text, (who, (at_, (-1 : Int))))] : List zqq);
 cond (decide ((List.length lrCopy2 + List.length l) * 40 ≤ Q5))
 (let l2 : List zqq := (lrCopy2 ++ l);
 k1 (0 : Int) rCopy rCopy2 rCopy3 rCopy4 rCopy5 rCopy6 rCopy7 rCopy8 rCopy9 lrCopy l2 lrCopy3 lrCopy4 lrCopy5)
 none)
def zq11z {β : Type} := hid (zq11y (β := β))
noncomputable def zq120 : Pb := ⟨15, zq11t, fun _ => zq11z, pe (p := zq11t) zq11q [] 15 (g := fun _ => zq11y) (by kernel_rfl) fun _ _ => by kernel_rfl⟩
def zq121 {β : Type} (k1 : zq11u β) (k2 : zq11v β) : zq11w β := fun at_ who text t18 x t8 =>
 cond t18
 (k1 (1 : Int) zq1h)
 (zq6u text (fun (rText : Bool) =>
 cond (!rText)
 (k1 (2 : Int) zq1h)
 (let t : Bool := (decide ((16 : Int) ≤ (List.length x.2.2.2.2.2.2.2.1 : Int)));
 cond t
 (k1 (5 : Int) zq1h)
 (k2 at_ who text x t8))))
def zq122 {β : Type} := hid (zq121 (β := β))
noncomputable def zq123 : Pb := ⟨57, zq11x, fun _ => zq122, pe (p := zq11x) zq11q [] 57 (g := fun _ => zq121) (by kernel_rfl) fun _ _ => by kernel_rfl⟩
def zq124 : zq11p := fun x at_ who text k =>
 zqrp x (fun (rready : Int) =>
 cond (!decide (rready = (0 : Int)))
 (k zq1h rready)
 (zq56 at_ x.2.2.2.1 (8589934592 : Int) (fun (rIn : Bool) =>
 cond (!rIn)
 (zq122 (fun (t9 : Int) (t8 : zqw) =>
 k t8 t9) (fun (at_2 : Int) (who2 : Int) (text2 : List UInt8) (x2 : zqw) (t8 : zqw) =>
 zq11z (fun (t9 : Int) (t82 : Int) (t83 : Int) (t84 : Int) (t85 : Int) (t86 : List UInt8) (t87 : Int) (t88 : Int) (t89 : Int) (t810 : Int) (b1_ : List Int) (b2_ : List zqq) (b3_ : List zqs) (b4_ : List Int) (b5_ : List t2y) =>
 k (t82, (t83, (t84, (t85, (t86, ((t87, (t88, t89)), (b1_, (b2_, (b3_, (b4_, (b5_, t810))))))))))) t9) at_2 who2 text2 x2 t8) at_ who text true x zq1h)
 (zq5m who true (fun (rperson : Bool) =>
 zq122 (fun (t9 : Int) (t8 : zqw) =>
 k t8 t9) (fun (at_2 : Int) (who2 : Int) (text2 : List UInt8) (x2 : zqw) (t8 : zqw) =>
 zq11z (fun (t9 : Int) (t82 : Int) (t83 : Int) (t84 : Int) (t85 : Int) (t86 : List UInt8) (t87 : Int) (t88 : Int) (t89 : Int) (t810 : Int) (b1_ : List Int) (b2_ : List zqq) (b3_ : List zqs) (b4_ : List Int) (b5_ : List t2y) =>
 k (t82, (t83, (t84, (t85, (t86, ((t87, (t88, t89)), (b1_, (b2_, (b3_, (b4_, (b5_, t810))))))))))) t9) at_2 who2 text2 x2 t8) at_ who text (!rperson) x zq1h)))))
def zq125 : zq11p := hid zq124
noncomputable def zq126 : En := ⟨33, .spec (sg [b43y, b27y, b27y, b63y] [] [b43y, b27y] [] zq125), pf zq11q [zq120, zq123] [.cell 8 46, .tmp 9] Tryz.func33 (by kernel_rfl) fun _ _ => by kernel_rfl⟩
abbrev zq127 := {β : Type} → zqw → Int → Int → (zqw → Int → Option β) → Option β
def zq128 : zq127 := fun x task at_ k =>
 zqrp x (fun (rready : Int) =>
 cond (!decide (rready = (0 : Int)))
 (k zq1h rready)
 (zq56 at_ x.2.2.2.1 (8589934592 : Int) (fun (rIn : Bool) =>
 cond (!rIn)
 (k zq1h (1 : Int))
 (zq56 task (0 : Int) (IntKind.i64.wrap ((List.length x.2.2.2.2.2.2.2.1 : Int) - (1 : Int))) (fun (rIn2 : Bool) =>
 cond (!rIn2)
 (k zq1h (3 : Int))
 (cond (decide (0 ≤ task) && decide (task < (List.length x.2.2.2.2.2.2.2.1 : Int)))
 (let e : zqq := List.getD x.2.2.2.2.2.2.2.1 (Int.toNat task) (([] : List UInt8), ((0 : Int), ((0 : Int), (0 : Int))));
 let t : Bool := (!decide (e.2.2.2 = (-1 : Int)));
 cond t
 (k zq1h (9 : Int))
 (cond (decide (0 ≤ task) && decide (task < (List.length x.2.2.2.2.2.2.2.1 : Int)))
 (let e2 : zqq := List.getD x.2.2.2.2.2.2.2.1 (Int.toNat task) (([] : List UInt8), ((0 : Int), ((0 : Int), (0 : Int))));
 let t2 : Bool := (decide (at_ < e2.2.2.1));
 cond t2
 (k zq1h (1 : Int))
 (zq5y x (fun (rCopy : Int) (rCopy2 : Int) (rCopy3 : Int) (rCopy4 : Int) (rCopy5 : List UInt8) (rCopy6 : Int) (rCopy7 : Int) (rCopy8 : Int) (rCopy9 : Int) (lrCopy : List Int) (lrCopy2 : List zqq) (lrCopy3 : List zqs) (lrCopy4 : List Int) (lrCopy5 : List t2y) =>
 cond (decide (0 ≤ task) && decide (task < (List.length lrCopy2 : Int)))
 (let l : List zqq := (List.set lrCopy2 (Int.toNat task) ((List.getD lrCopy2 (Int.toNat task) (([] : List UInt8), ((0 : Int), ((0 : Int), (0 : Int))))).1, (((List.getD lrCopy2 (Int.toNat task) (([] : List UInt8), ((0 : Int), ((0 : Int), (0 : Int))))).2).1, ((((List.getD lrCopy2 (Int.toNat task) (([] : List UInt8), ((0 : Int), ((0 : Int), (0 : Int))))).2).2).1, at_))));
 k (rCopy, (rCopy2, (rCopy3, (rCopy4, (rCopy5, ((rCopy6, (rCopy7, rCopy8)), (lrCopy, (l, (lrCopy3, (lrCopy4, (lrCopy5, rCopy9))))))))))) (0 : Int))
 none)))
 none))
 none))))))
def zq129 : zq127 := hid zq128
noncomputable def zq12a : En := ⟨34, .spec (sg [b43y, b27y, b27y] [] [b43y, b27y] [] zq129), pf [zq57, zq5z, zqrq] [] [.cell 6 46, .tmp 7] Tryz.func34 (by kernel_rfl) fun _ _ => by kernel_rfl⟩
abbrev zq12b := {β : Type} → zqw → Int → (zqw → Int → Option β) → Option β
def zq12c : zq12b := fun x who k =>
 zqrp x (fun (rready : Int) =>
 cond (!decide (rready = (0 : Int)))
 (k zq1h rready)
 (zq5m who false (fun (rperson : Bool) =>
 cond (!rperson)
 (k zq1h (1 : Int))
 (zq4i x.2.2.2.2.2.2.2.2.2.1 who (fun (rHas : Bool) =>
 cond rHas
 (k zq1h (4 : Int))
 (zq5y x (fun (rCopy : Int) (rCopy2 : Int) (rCopy3 : Int) (rCopy4 : Int) (rCopy5 : List UInt8) (rCopy6 : Int) (rCopy7 : Int) (rCopy8 : Int) (rCopy9 : Int) (lrCopy : List Int) (lrCopy2 : List zqq) (lrCopy3 : List zqs) (lrCopy4 : List Int) (lrCopy5 : List t2y) =>
 zq7c lrCopy4 who (fun (lrWith : List Int) =>
 k (rCopy, (rCopy2, (rCopy3, (rCopy4, (rCopy5, ((rCopy6, (rCopy7, rCopy8)), (lrCopy, (lrCopy2, (lrCopy3, (lrWith, (lrCopy5, rCopy9))))))))))) (0 : Int)))))))))
def zq12d : zq12b := hid zq12c
noncomputable def zq12e : En := ⟨35, .spec (sg [b43y, b27y] [] [b43y, b27y] [] zq12d), pf [zq4j, zq7d, zq5z, zq5n, zqrq] [] [.cell 4 46, .tmp 5] Tryz.func35 (by kernel_rfl) fun _ _ => by kernel_rfl⟩
abbrev zq12f := {β : Type} → zqw → Int → t7y → (zqw → Int → t3y → Option β) → Option β
noncomputable def zq12g : List En := [zq57, zq7d, zq5z, zq6v, zq69, zqrq]
abbrev zq12h (β : Type) := Int → t7y → zqw → zqw → Int → Int → Int → Int → t7y → Int → Int → Int → Int → t3y → t3y → t25y → t20y → t3y → t9y → Option β
abbrev zq12i (β : Type) := Int → t7y → Int → zqw → zqw → Int → Int → Int → Int → t7y → Int → Int → Int → Int → t3y → t3y → t25y → t20y → t3y → t9y → Option β
noncomputable def zq12j : Pc := ⟨71, 0, Q1 506 (Q2 Tryz.f36), ⟨0, [1, 2, 3, 6, 10, 11, 12], [b27y, b63y, b29y, b34y, b37y, b62y, b27y], [b32y, b32y, b68y, .row 3 (.int .i64), .row 3 (.int .i64), .row 177 zqr, .row 179 zqt, .row 3 (.int .i64), .row 146 (.prod (.int .i64) (.prod (.int .i64) (.int .i64)))]⟩, [(.exit 1, ⟨0, [1, 2, 3, 6, 10, 11], [b27y, b63y, b29y, b34y, b37y, b62y], [b32y, b32y, b68y, .row 3 (.int .i64), .row 3 (.int .i64), .row 177 zqr, .row 179 zqt, .row 3 (.int .i64), .row 146 (.prod (.int .i64) (.prod (.int .i64) (.int .i64)))]⟩)]⟩
def zq12k {β : Type} (rec : zq12i β) (k1 : zq12h β) : zq12i β := fun at_ text i_ x t6 out out2 out3 out4 out5 out6 out7 out8 out9 told b4_ b5_ b6_ b7_ b8_ =>
 cond (decide (i_ < (3 : Int)))
 (cond (decide (i_ = (0 : Int)))
 (cond (decide ((0 : Int) ≤ x.2.2.2.2.2.1.1))
 (cond (decide (i_ = (0 : Int)))
 (zq7c told x.2.2.2.2.2.1.1 (fun (lrWith : List Int) =>
 let i_2 : Int := (IntKind.i64.wrap (i_ + (1 : Int)));
 rec at_ text i_2 x t6 out out2 out3 out4 out5 out6 out7 out8 out9 lrWith b4_ b5_ b6_ b7_ b8_))
 (cond (decide (i_ = (1 : Int)))
 (zq7c told x.2.2.2.2.2.1.2.1 (fun (lrWith : List Int) =>
 let i_2 : Int := (IntKind.i64.wrap (i_ + (1 : Int)));
 rec at_ text i_2 x t6 out out2 out3 out4 out5 out6 out7 out8 out9 lrWith b4_ b5_ b6_ b7_ b8_))
 (cond (decide (i_ = (2 : Int)))
 (zq7c told x.2.2.2.2.2.1.2.2 (fun (lrWith : List Int) =>
 let i_2 : Int := (IntKind.i64.wrap (i_ + (1 : Int)));
 rec at_ text i_2 x t6 out out2 out3 out4 out5 out6 out7 out8 out9 lrWith b4_ b5_ b6_ b7_ b8_))
 (none))))
 (let i_2 : Int := (IntKind.i64.wrap (i_ + (1 : Int)));
 rec at_ text i_2 x t6 out out2 out3 out4 out5 out6 out7 out8 out9 told b4_ b5_ b6_ b7_ b8_))
 (cond (decide (i_ = (1 : Int)))
 (cond (decide ((0 : Int) ≤ x.2.2.2.2.2.1.2.1))
 (cond (decide (i_ = (0 : Int)))
 (zq7c told x.2.2.2.2.2.1.1 (fun (lrWith : List Int) =>
 let i_2 : Int := (IntKind.i64.wrap (i_ + (1 : Int)));
 rec at_ text i_2 x t6 out out2 out3 out4 out5 out6 out7 out8 out9 lrWith b4_ b5_ b6_ b7_ b8_))
 (cond (decide (i_ = (1 : Int)))
 (zq7c told x.2.2.2.2.2.1.2.1 (fun (lrWith : List Int) =>
 let i_2 : Int := (IntKind.i64.wrap (i_ + (1 : Int)));
 rec at_ text i_2 x t6 out out2 out3 out4 out5 out6 out7 out8 out9 lrWith b4_ b5_ b6_ b7_ b8_))
 (cond (decide (i_ = (2 : Int)))
 (zq7c told x.2.2.2.2.2.1.2.2 (fun (lrWith : List Int) =>
 let i_2 : Int := (IntKind.i64.wrap (i_ + (1 : Int)));
 rec at_ text i_2 x t6 out out2 out3 out4 out5 out6 out7 out8 out9 lrWith b4_ b5_ b6_ b7_ b8_))
 (none))))
 (let i_2 : Int := (IntKind.i64.wrap (i_ + (1 : Int)));
 rec at_ text i_2 x t6 out out2 out3 out4 out5 out6 out7 out8 out9 told b4_ b5_ b6_ b7_ b8_))
 (cond (decide (i_ = (2 : Int)))
 (cond (decide ((0 : Int) ≤ x.2.2.2.2.2.1.2.2))
 (cond (decide (i_ = (0 : Int)))
 (zq7c told x.2.2.2.2.2.1.1 (fun (lrWith : List Int) =>
 let i_2 : Int := (IntKind.i64.wrap (i_ + (1 : Int)));
 rec at_ text i_2 x t6 out out2 out3 out4 out5 out6 out7 out8 out9 lrWith b4_ b5_ b6_ b7_ b8_))
 (cond (decide (i_ = (1 : Int)))
 (zq7c told x.2.2.2.2.2.1.2.1 (fun (lrWith : List Int) =>
 let i_2 : Int := (IntKind.i64.wrap (i_ + (1 : Int)));
 rec at_ text i_2 x t6 out out2 out3 out4 out5 out6 out7 out8 out9 lrWith b4_ b5_ b6_ b7_ b8_))
 (cond (decide (i_ = (2 : Int)))
 (zq7c told x.2.2.2.2.2.1.2.2 (fun (lrWith : List Int) =>
 let i_2 : Int := (IntKind.i64.wrap (i_ + (1 : Int)));
 rec at_ text i_2 x t6 out out2 out3 out4 out5 out6 out7 out8 out9 lrWith b4_ b5_ b6_ b7_ b8_))
 (none))))
 (let i_2 : Int := (IntKind.i64.wrap (i_ + (1 : Int)));
 rec at_ text i_2 x t6 out out2 out3 out4 out5 out6 out7 out8 out9 told b4_ b5_ b6_ b7_ b8_))
 (none))))
 (k1 at_ text x t6 out out2 out3 out4 out5 out6 out7 out8 out9 told b4_ b5_ b6_ b7_ b8_)
def zq12l (m : Nat) {β : Type} (k1 : zq12h β) : zq12i β := lp20 (fun r => zq12k r k1) none m
theorem zq12m {β : Type} (i : Nat) (k1) : zq12l (β := β) (i + 1) k1 = zq12k (zq12l i k1) k1 := rfl
def zq12n {β : Type} := hid (zq12l (β := β) fuel)
noncomputable def zq12o : Pb := ⟨506, zq12j, fun _ => zq12n, pl (p := zq12j) zq12g [] (g := fun i _ => zq12l i) (by kernel_rfl) rfl (by kernel_rfl) (fun _ _ => rfl) fun _ _ _ _ => by kernel_rfl⟩
def zq12p : zq12f := fun x at_ text k =>
 zqrp x (fun (rready : Int) =>
 cond (!decide (rready = (0 : Int)))
 (k zq1h rready ([] : List Int))
 (zq68 x (fun (rlast : Int) =>
 zq56 at_ rlast (8589934592 : Int) (fun (rIn : Bool) =>
 cond (!rIn)
 (k zq1h (1 : Int) ([] : List Int))
 (zq6u text (fun (rText : Bool) =>
 cond (!rText)
 (k zq1h (2 : Int) ([] : List Int))
 (let t : Bool := (decide ((32 : Int) ≤ (List.length x.2.2.2.2.2.2.2.2.1 : Int)));
 cond t
 (k zq1h (5 : Int) ([] : List Int))
 (zq5y x (fun (rCopy : Int) (rCopy2 : Int) (rCopy3 : Int) (rCopy4 : Int) (rCopy5 : List UInt8) (rCopy6 : Int) (rCopy7 : Int) (rCopy8 : Int) (rCopy9 : Int) (lrCopy : List Int) (lrCopy2 : List zqq) (lrCopy3 : List zqs) (lrCopy4 : List Int) (lrCopy5 : List t2y) =>
 cond (decide (List.length x.2.2.2.2.2.2.2.2.2.1 * 8 ≤ Q5))
 (zq12n (fun (at_2 : Int) (text2 : List UInt8) (x2 : zqw) (t6 : zqw) (out : Int) (out2 : Int) (out3 : Int) (out4 : Int) (out5 : List UInt8) (out6 : Int) (out7 : Int) (out8 : Int) (out9 : Int) (told : List Int) (b4_ : List Int) (b5_ : List zqq) (b6_ : List zqs) (b7_ : List Int) (b8_ : List t2y) =>
 cond (decide (List.length told * 8 ≤ Q5))
 (let l : List zqs := ([(at_2, (x2.2.1, (text2, told)))] : List zqs);
 cond (decide ((List.length b6_ + List.length l) * 56 ≤ Q5))
 (let l2 : List zqs := (b6_ ++ l);
 k (out, (out2, (out3, (out4, (out5, ((out6, (out7, out8)), (b4_, (b5_, (l2, (b7_, (b8_, out9))))))))))) (0 : Int) told)
 none)
 none) at_ text (0 : Int) x zq1h rCopy rCopy2 rCopy3 rCopy4 rCopy5 rCopy6 rCopy7 rCopy8 rCopy9 x.2.2.2.2.2.2.2.2.2.1 lrCopy lrCopy2 lrCopy3 lrCopy4 lrCopy5)
 none)))))))))
def zq12q : zq12f := hid zq12p
noncomputable def zq12r : En := ⟨36, .spec (sg [b43y, b27y, b63y] [] [b43y, b50y, b27y] [.row 3 (.int .i64)] zq12q), pf zq12g [zq12o] [.cell 6 46, .tmp 7, .tmp 8] Tryz.func36 (by kernel_rfl) fun _ _ => by kernel_rfl⟩
abbrev zq12s := {β : Type} → zqw → Int → (zqw → Int → Option β) → Option β
def zq12t : zq12s := fun x page k =>
 zqrp x (fun (rready : Int) =>
 cond (!decide (rready = (0 : Int)))
 (k zq1h rready)
 (zq56 page (1 : Int) (999999 : Int) (fun (rIn : Bool) =>
 cond (!rIn)
 (k zq1h (1 : Int))
 (zq4i x.2.2.2.2.2.2.1 page (fun (rHas : Bool) =>
 cond rHas
 (k zq1h (4 : Int))
 (let t : Bool := (decide ((64 : Int) ≤ (List.length x.2.2.2.2.2.2.1 : Int)));
 cond t
 (k zq1h (5 : Int))
 (zq5y x (fun (rCopy : Int) (rCopy2 : Int) (rCopy3 : Int) (rCopy4 : Int) (rCopy5 : List UInt8) (rCopy6 : Int) (rCopy7 : Int) (rCopy8 : Int) (rCopy9 : Int) (lrCopy : List Int) (lrCopy2 : List zqq) (lrCopy3 : List zqs) (lrCopy4 : List Int) (lrCopy5 : List t2y) =>
 zq7c lrCopy page (fun (lrWith : List Int) =>
 k (rCopy, (rCopy2, (rCopy3, (rCopy4, (rCopy5, ((rCopy6, (rCopy7, rCopy8)), (lrWith, (lrCopy2, (lrCopy3, (lrCopy4, (lrCopy5, rCopy9))))))))))) (0 : Int))))))))))
def zq12u : zq12s := hid zq12t
noncomputable def zq12v : En := ⟨37, .spec (sg [b43y, b27y] [] [b43y, b27y] [] zq12u), pf [zq4j, zq57, zq7d, zq5z, zqrq] [] [.cell 4 46, .tmp 5] Tryz.func37 (by kernel_rfl) fun _ _ => by kernel_rfl⟩
abbrev zq12w := {β : Type} → zqm → zq4 → zqy → t22y → (zqy → Int → Option β) → Option β
noncomputable def zq12x : List En := [zq4j, zq7d, zq85, zq94, zqs4, zq7p, zq90]
abbrev zq12y (β : Type) := Bool → zqy → t22y → zqy → Int → Int → Int → Int → Int → Int → Int → Int → Int → Int → Int → (List t4y) → t3y → t3y → Option β
abbrev zq12z (β : Type) := Bool → Int → zqy → t22y → zqy → Int → Int → Int → Int → Int → Int → Int → Int → Int → Int → Int → t3y → (List t4y) → t3y → t3y → Option β
noncomputable def zq130 : Pc := ⟨158, 0, Q1 2091962 (Q2 Tryz.f40), ⟨0, [6, 7, 8, 10, 12, 13, 14], [b29y, b34y, b37y, b51y, (false, [.rowh 4]), b30y, b27y], [b38y, b46y, b38y, b48y, .row 3 (.int .i64), .row 143 (.prod (.int .i64) (.prod (.int .i64) (.slice (.int .i64)))), .row 3 (.int .i64), .row 3 (.int .i64)]⟩, [(.exit 1, ⟨0, [6, 7, 8, 10, 13], [b29y, b34y, b37y, b51y, b30y], [b38y, b46y, b38y, .cells 52 [.data (.int .i64), .data (.int .i64), .data (.int .i64), .data (.int .i64), .data (.int .i64), .data (.int .i64), .data (.int .i64), .data (.int .i64), .data (.int .i64), .data (.int .i64), .data (.int .i64), .rowh 4, .rowh 5, .rowh 6], .row 143 (.prod (.int .i64) (.prod (.int .i64) (.slice (.int .i64)))), .row 3 (.int .i64), .row 3 (.int .i64)]⟩)]⟩
abbrev zq131 (β : Type) := zqy → Int → Int → Int → Int → Int → Int → Int → Int → Int → Int → Int → (List t4y) → t3y → t3y → Option β
abbrev zq132 (β : Type) := zqy → t22y → zqy → Int → Int → Int → Int → Int → Int → Int → Int → Int → Int → Int → t3y → (List t4y) → t3y → t3y → Option β
noncomputable def zq133 : Pc := ⟨158, 0, Q1 130747 (Q2 Tryz.f40), ⟨0, [6, 7, 8, 10, 12], [b29y, b34y, b37y, b51y, (false, [.rowh 4])], [b38y, b46y, b38y, b48y, .row 3 (.int .i64), .row 143 (.prod (.int .i64) (.prod (.int .i64) (.slice (.int .i64)))), .row 3 (.int .i64), .row 3 (.int .i64)]⟩, [(.normal, ⟨0, [8, 10], [b29y, b34y], [b38y, .cells 52 [.data (.int .i64), .data (.int .i64), .data (.int .i64), .data (.int .i64), .data (.int .i64), .data (.int .i64), .data (.int .i64), .data (.int .i64), .data (.int .i64), .data (.int .i64), .data (.int .i64), .rowh 2, .rowh 3, .rowh 4], .row 143 (.prod (.int .i64) (.prod (.int .i64) (.slice (.int .i64)))), .row 3 (.int .i64), .row 3 (.int .i64)]⟩)]⟩
def zq134 {β : Type} (rec : zq12z β) (k1 : zq12y β) : zq12z β := fun all i_ p_ a t8 out out2 out3 out4 out5 out6 out7 out8 out9 out10 out11 called b5_ b6_ b7_ =>
 cond (decide (i_ < (List.length called : Int)))
 (cond all
 (cond (decide (0 ≤ i_) && decide (i_ < (List.length called : Int)))
 (zq4i b6_ (List.getD called (Int.toNat i_) (0 : Int)) (fun (rHas : Bool) =>
 let i_2 : Int := (IntKind.i64.wrap (i_ + (1 : Int)));
 rec rHas i_2 p_ a t8 out out2 out3 out4 out5 out6 out7 out8 out9 out10 out11 called b5_ b6_ b7_))
 none)
 (let i_2 : Int := (IntKind.i64.wrap (i_ + (1 : Int)));
 rec false i_2 p_ a t8 out out2 out3 out4 out5 out6 out7 out8 out9 out10 out11 called b5_ b6_ b7_))
 (k1 all p_ a t8 out out2 out3 out4 out5 out6 out7 out8 out9 out10 out11 b5_ b6_ b7_)
def zq135 (m : Nat) {β : Type} (k1 : zq12y β) : zq12z β := lp20 (fun r => zq134 r k1) none m
theorem zq136 {β : Type} (i : Nat) (k1) : zq135 (β := β) (i + 1) k1 = zq134 (zq135 i k1) k1 := rfl
def zq137 {β : Type} := hid (zq135 (β := β) fuel)
noncomputable def zq138 : Pb := ⟨2091962, zq130, fun _ => zq137, pl (p := zq130) zq12x [] (g := fun i _ => zq135 i) (by kernel_rfl) rfl (by kernel_rfl) (fun _ _ => rfl) fun _ _ _ _ => by kernel_rfl⟩
def zq139 {β : Type} (k1 : zq131 β) : zq132 β := fun p_ a t8 out out2 out3 out4 out5 out6 out7 out8 out9 out10 out11 called b5_ b6_ b7_ =>
 let all : Bool := (decide ((0 : Int) < (List.length called : Int)));
 zq137 (fun (all2 : Bool) (p_2 : zqy) (a2 : t22y) (t82 : zqy) (out12 : Int) (out13 : Int) (out14 : Int) (out15 : Int) (out16 : Int) (out17 : Int) (out18 : Int) (out19 : Int) (out20 : Int) (out21 : Int) (out22 : Int) (b4_ : List t4y) (b5_2 : List Int) (b6_2 : List Int) =>
 cond all2
 (cond (decide (p_2.2.2.2.2.2.1 = (0 : Int)))
 (k1 t82 out12 out13 out14 out15 a2.2.2.2.2.2 out17 out18 out19 out20 out21 out22 b4_ b5_2 b6_2)
 (k1 t82 out12 out13 out14 out15 out16 out17 out18 out19 out20 out21 out22 b4_ b5_2 b6_2))
 (k1 t82 out12 out13 out14 out15 out16 out17 out18 out19 out20 out21 out22 b4_ b5_2 b6_2)) all (0 : Int) p_ a t8 out out2 out3 out4 out5 out6 out7 out8 out9 out10 out11 called b5_ b6_ b7_
def zq13a {β : Type} := hid (zq139 (β := β))
noncomputable def zq13b : Pb := ⟨130747, zq133, fun _ => zq13a, pe (p := zq133) zq12x [zq138] 130747 (g := fun _ => zq139) (by kernel_rfl) fun _ _ => by kernel_rfl⟩
def zq13c : zq12w := fun c b p_ a k =>
 zqs3 b p_ (fun (rCheck : Bool) =>
 cond (!rCheck)
 (k zq1g (8 : Int))
 (zq84 a (fun (rValid : Bool) =>
 cond (!rValid)
 (k zq1g (8 : Int))
 (cond (!decide (a.2.1 = p_.1))
 (k zq1g (3 : Int))
 (zq7o p_ (fun (rCopy : Int) (rCopy2 : Int) (rCopy3 : Int) (rCopy4 : Int) (rCopy5 : Int) (rCopy6 : Int) (rCopy7 : Int) (rCopy8 : Int) (rCopy9 : Int) (rCopy10 : Int) (rCopy11 : Int) (lrCopy : List t4y) (lrCopy2 : List Int) (lrCopy3 : List Int) =>
 zq4i p_.2.2.2.2.2.2.2.2.2.2.2.2.2 a.1 (fun (rHas : Bool) =>
 cond rHas
 (k (rCopy, (rCopy2, (rCopy3, (rCopy4, (rCopy5, (rCopy6, (rCopy7, (rCopy8, (rCopy9, (rCopy10, (rCopy11, (lrCopy, (lrCopy2, lrCopy3))))))))))))) (0 : Int))
 (zq8z p_ a (fun (rrefused : Int) =>
 cond (!decide (rrefused = (0 : Int)))
 (k zq1g rrefused)
 (let l : List Int := ([a.1] : List Int);
 cond (decide ((List.length lrCopy3 + List.length l) * 8 ≤ Q5))
 (let l2 : List Int := (lrCopy3 ++ l);
 let t : Bool := (decide (a.2.2.2.1 = (1 : Int)));
 cond t
 (cond (decide (p_.2.2.2.2.2.1 = (1 : Int)))
 (k (rCopy, (rCopy2, (rCopy3, (rCopy4, (rCopy5, (rCopy6, (rCopy7, (rCopy8, (p_.2.2.2.2.2.2.2.2.1, (rCopy10, (rCopy11, (lrCopy, (lrCopy2, l2))))))))))))) (0 : Int))
 (k (rCopy, (rCopy2, (rCopy3, (rCopy4, (rCopy5, ((1 : Int), (a.2.2.1, (rCopy8, (a.2.2.2.2.2, (rCopy10, (rCopy11, (lrCopy, (lrCopy2, l2))))))))))))) (0 : Int)))
 (let t2 : Bool := (decide (a.2.2.2.1 = (2 : Int)));
 cond t2
 (zq93 p_ (fun (lrCalled : List Int) =>
 zq4i lrCalled a.2.2.1 (fun (rHas2 : Bool) =>
 cond rHas2
 (zq7c lrCopy2 a.2.2.1 (fun (lrWith : List Int) =>
 zq13a (fun (t8 : zqy) (out : Int) (out2 : Int) (out3 : Int) (out4 : Int) (out5 : Int) (out6 : Int) (out7 : Int) (out8 : Int) (out9 : Int) (out10 : Int) (out11 : Int) (b2_ : List t4y) (b3_ : List Int) (b4_ : List Int) =>
 k (out, (out2, (out3, (out4, (out5, (out6, (out7, (out8, (out9, (out10, (out11, (b2_, (b3_, b4_))))))))))))) (0 : Int)) p_ a zq1g rCopy rCopy2 rCopy3 rCopy4 rCopy5 rCopy6 rCopy7 rCopy8 a.2.2.2.2.2 rCopy10 rCopy11 lrCalled lrCopy lrWith l2))
 (zq13a (fun (t8 : zqy) (out : Int) (out2 : Int) (out3 : Int) (out4 : Int) (out5 : Int) (out6 : Int) (out7 : Int) (out8 : Int) (out9 : Int) (out10 : Int) (out11 : Int) (b2_ : List t4y) (b3_ : List Int) (b4_ : List Int) =>
 k (out, (out2, (out3, (out4, (out5, (out6, (out7, (out8, (out9, (out10, (out11, (b2_, (b3_, b4_))))))))))))) (0 : Int)) p_ a zq1g rCopy rCopy2 rCopy3 rCopy4 rCopy5 rCopy6 rCopy7 rCopy8 a.2.2.2.2.2 rCopy10 rCopy11 lrCalled lrCopy lrCopy2 l2))))
 (let t3 : Bool := (decide (a.2.2.2.1 = (3 : Int)));
 cond t3
 (k (rCopy, (rCopy2, (rCopy3, (rCopy4, (rCopy5, ((2 : Int), (a.2.2.1, ((IntKind.i64.wrap (a.2.2.2.2.2 + a.2.2.2.2.1)), (a.2.2.2.2.2, ((IntKind.i64.wrap (p_.2.2.2.2.2.2.2.2.2.1 + (1 : Int))), (rCopy11, (lrCopy, (lrCopy2, l2))))))))))))) (0 : Int))
 (let t4 : Bool := (decide (a.2.2.2.1 = (4 : Int)));
 cond t4
 (let l3 : List Int := ([a.2.2.2.2.1] : List Int);
 let l4 : List t4y := ([((-1 : Int), (a.2.2.2.2.2, l3))] : List t4y);
 cond (decide ((List.length lrCopy + List.length l4) * 40 ≤ Q5))
 (let l5 : List t4y := (lrCopy ++ l4);
 k (rCopy, (rCopy2, (rCopy3, (rCopy4, ((IntKind.i64.wrap (a.2.2.2.2.2 + (600 : Int))), ((0 : Int), (rCopy7, (rCopy8, (a.2.2.2.2.2, (rCopy10, ((IntKind.i64.wrap (p_.2.2.2.2.2.2.2.2.2.2.1 + (1 : Int))), (l5, (([] : List Int), l2))))))))))))) (0 : Int))
 none)
 (let t5 : Bool := (decide (a.2.2.2.1 = (5 : Int)));
 cond t5
 (k (rCopy, (rCopy2, (rCopy3, (rCopy4, (rCopy5, ((4 : Int), (a.2.2.1, (rCopy8, (a.2.2.2.2.2, (rCopy10, (rCopy11, (lrCopy, (lrCopy2, l2))))))))))))) (0 : Int))
 (k (rCopy, (rCopy2, (rCopy3, (rCopy4, (rCopy5, (rCopy6, (rCopy7, (rCopy8, (a.2.2.2.2.2, (rCopy10, (rCopy11, (lrCopy, (lrCopy2, l2))))))))))))) (0 : Int)))))))
 none))))))))))
def zq13d : zq12w := hid zq13c
noncomputable def zq13e : En := ⟨40, .spec (sg [b47y, b79y, b58y, b72y] [] [b58y, b27y] [] zq13d), pf zq12x [zq13b] [.cell 8 52, .tmp 9] Tryz.func40 (by kernel_rfl) fun _ _ => by kernel_rfl⟩
abbrev zq13f := {β : Type} → zqw → (Bool → Option β) → Option β
noncomputable def zq13g : List En := [zq9m, zqt4, zq98, zqs8, zqa4, zqa0, zqsc, zqsq, zqai]
abbrev zq13h (β : Type) := Bool → Option β
abbrev zq13i (β : Type) := zqw → Option β
abbrev zq13j (β : Type) := t2y → Int → zqw → Option β
noncomputable def zq13k : Pc := ⟨89, 0, Q1 58 (Q2 Tryz.f42), ⟨0, [1, 29, 30], [b29y, b70y, b27y], [b32y]⟩, [(.ret, ⟨0, [2], [b30y], []⟩), (.exit 0, ⟨0, [1], [b29y], [b32y]⟩)]⟩
abbrev zq13l (β : Type) := Bool → Option β
abbrev zq13m (β : Type) := zqw → Option β
noncomputable def zq13n : Pc := ⟨89, 0, Q1 63 (Q2 Tryz.f42), ⟨0, [1], [b29y], [b32y]⟩, [(.ret, ⟨0, [2], [b30y], []⟩)]⟩
def zq13o {β : Type} (rec : zq13j β) (k1 : zq13h β) (k2 : zq13i β) : zq13j β := fun t29 t30 x =>
 cond (decide (t30 < (3 : Int)))
 (cond (decide (0 ≤ t30) && decide (t30 < (List.length ([t29.1, t29.2.1, t29.2.2] : List Int) : Int)))
 (let e : Int := List.getD ([t29.1, t29.2.1, t29.2.2] : List Int) (Int.toNat t30) (0 : Int);
 zqsb e (fun (rsomebody : Bool) =>
 cond (!rsomebody)
 (k1 false)
 (rec t29 (IntKind.i64.wrap (t30 + (1 : Int))) x)))
 none)
 (k2 x)
def zq13p (m : Nat) {β : Type} (k1 : zq13h β) (k2 : zq13i β) : zq13j β := lp3 (fun r => zq13o r k1 k2) none m
theorem zq13q {β : Type} (i : Nat) (k1 k2) : zq13p (β := β) (i + 1) k1 k2 = zq13o (zq13p i k1 k2) k1 k2 := rfl
def zq13r {β : Type} := hid (zq13p (β := β) fuel)
noncomputable def zq13s : Pb := ⟨58, zq13k, fun _ => zq13r, pl (p := zq13k) zq13g [] (g := fun i _ => zq13p i) (by kernel_rfl) rfl (by kernel_rfl) (fun _ _ => rfl) fun _ _ _ _ => by kernel_rfl⟩
def zq13t {β : Type} (k1 : zq13l β) : zq13m β := fun x =>
 zqsp x (fun (rtasks : Bool) =>
 cond rtasks
 (zqah x (fun (rupdates : Bool) =>
 cond rupdates
 (zqt3 x (fun (rchanges : Bool) =>
 k1 rchanges))
 (k1 false)))
 (k1 false))
def zq13u {β : Type} := hid (zq13t (β := β))
noncomputable def zq13v : Pb := ⟨63, zq13n, fun _ => zq13u, pe (p := zq13n) zq13g [] 63 (g := fun _ => zq13t) (by kernel_rfl) fun _ _ => by kernel_rfl⟩
def zq13w : zq13f := fun x k =>
 zqs7 x.1 (fun (rnumber : Bool) =>
 cond (!rnumber)
 (k false)
 (zq97 x.2.2.1 (1 : Int) (5 : Int) (fun (rin : Bool) =>
 cond (!rin)
 (k false)
 (zq97 x.2.2.2.1 (0 : Int) (8589934592 : Int) (fun (rin2 : Bool) =>
 cond (!rin2)
 (k false)
 (zq9l x.2.2.2.2.1 (fun (rText : Bool) =>
 cond (!rText)
 (k false)
 (zq13r (fun (t2 : Bool) =>
 k t2) (fun (x2 : zqw) =>
 zq9z x2.2.2.2.2.2.2.1 (1 : Int) (999999 : Int) (fun (rset : Bool) =>
 cond (!rset)
 (k false)
 (cond (decide ((64 : Int) < (List.length x2.2.2.2.2.2.2.1 : Int)))
 (k false)
 (zqa3 x2.2.2.2.2.2.2.2.2.2.1 (fun (rpersons : Bool) =>
 cond (!rpersons)
 (k false)
 (let merged : Bool := (decide (x2.2.1 = (4 : Int)));
 cond merged
 (zqs7 x2.2.2.2.2.2.2.2.2.2.2.2 (fun (rnumber2 : Bool) =>
 cond (!rnumber2)
 (k false)
 (cond (decide (x2.2.2.2.2.2.2.2.2.2.2.2 = x2.1))
 (k false)
 (cond (!merged)
 (cond (!decide (x2.2.2.2.2.2.2.2.2.2.2.2 = (0 : Int)))
 (k false)
 (zq13u (fun (t2 : Bool) =>
 k t2) x2))
 (zq13u (fun (t2 : Bool) =>
 k t2) x2)))))
 (cond (!merged)
 (cond (!decide (x2.2.2.2.2.2.2.2.2.2.2.2 = (0 : Int)))
 (k false)
 (zq13u (fun (t2 : Bool) =>
 k t2) x2))
 (zq13u (fun (t2 : Bool) =>
 k t2) x2)))))))) x.2.2.2.2.2.1 (0 : Int) x))))))))
def zq13x : zq13f := hid zq13w
noncomputable def zq13y : En := ⟨42, .spec (sg [b43y] [] [b30y] [] zq13x), pf zq13g [zq13s, zq13v] [.tmp 2] Tryz.func42 (by kernel_rfl) fun _ _ => by kernel_rfl⟩
abbrev zq13z := {β : Type} → zqo → (Bool → t9y → Option β) → Option β
noncomputable def zq140 : List En := [zqhc, zqh8, zqvf]
abbrev zq141 (β : Type) := Bool → t9y → Option β
abbrev zq142 (β : Type) := zqo → t9y → Option β
abbrev zq143 (β : Type) := Int → zqo → t9y → Option β
noncomputable def zq144 : Pc := ⟨164, 0, Q1 122 (Q2 Tryz.f114), ⟨0, [1, 4, 5], [b29y, b45y, b27y], [b39y, .row 222 (.prod (.int .i64) (.prod (.int .i64) (.int .i64)))]⟩, [(.ret, ⟨0, [2, 3], [b50y, b30y], [.row 222 (.prod (.int .i64) (.prod (.int .i64) (.int .i64)))]⟩), (.exit 0, ⟨0, [1, 4], [b29y, b45y], [b39y, .row 222 (.prod (.int .i64) (.prod (.int .i64) (.int .i64)))]⟩)]⟩
abbrev zq145 (β : Type) := zqo → t9y → Option β
abbrev zq146 (β : Type) := Int → zqo → t9y → Option β
noncomputable def zq147 : Pc := ⟨164, 0, Q1 250 (Q2 Tryz.f114), ⟨0, [1, 4, 8], [b29y, b45y, b27y], [b39y, .row 222 (.prod (.int .i64) (.prod (.int .i64) (.int .i64)))]⟩, [(.exit 2, ⟨0, [1, 4], [b29y, b45y], [b39y, .row 222 (.prod (.int .i64) (.prod (.int .i64) (.int .i64)))]⟩)]⟩
abbrev zq148 (β : Type) := t9y → Option β
abbrev zq149 (β : Type) := Int → zqo → t9y → Option β
noncomputable def zq14a : Pc := ⟨164, 0, Q1 506 (Q2 Tryz.f114), ⟨0, [1, 4, 17], [b29y, b45y, b27y], [b39y, .row 222 (.prod (.int .i64) (.prod (.int .i64) (.int .i64)))]⟩, [(.exit 6, ⟨0, [4], [b50y], [.row 222 (.prod (.int .i64) (.prod (.int .i64) (.int .i64)))]⟩)]⟩
abbrev zq14b (β : Type) := Int → zqo → t9y → Option β
abbrev zq14c (β : Type) := Int → Int → zqo → t9y → Option β
noncomputable def zq14d : Pc := ⟨164, 0, Q1 50 (Qb zq147.c), ⟨0, [1, 4, 8, 9], [b29y, b45y, b27y, b27y], [b39y, .row 222 (.prod (.int .i64) (.prod (.int .i64) (.int .i64)))]⟩, [(.exit 4, ⟨0, [1, 4, 8], [b29y, b45y, b27y], [b39y, .row 222 (.prod (.int .i64) (.prod (.int .i64) (.int .i64)))]⟩)]⟩
abbrev zq14e (β : Type) := Int → Int → zqo → t9y → Option β
abbrev zq14f (β : Type) := Int → Int → Int → Int → Int → zqo → t9y → zq8 → Option β
noncomputable def zq14g : Pc := ⟨164, 0, Q1 207 (Qb zq14d.c), ⟨0, [1, 4, 8, 9, 10, 12, 13, 14], [b29y, b45y, b27y, b27y, b37y, b27y, b27y, b27y], [b39y, .row 222 (.prod (.int .i64) (.prod (.int .i64) (.int .i64))), b86y]⟩, [(.normal, ⟨0, [1, 4, 8, 9], [b29y, b45y, b27y, b27y], [b39y, .row 222 (.prod (.int .i64) (.prod (.int .i64) (.int .i64)))]⟩)]⟩
def zq14h {β : Type} (rec : zq143 β) (k1 : zq141 β) (k2 : zq142 β) : zq143 β := fun i_ r_ out =>
 cond (decide (i_ < (List.length r_.2.2.1 : Int)))
 (cond (decide (0 ≤ i_) && decide (i_ < (List.length r_.2.2.1 : Int)))
 (let e : zq8 := List.getD r_.2.2.1 (Int.toNat i_) ((0 : Int), ((0 : Int), ([] : List UInt8)));
 cond (decide (0 ≤ i_) && decide (i_ < (List.length r_.2.2.1 : Int)))
 (let e2 : zq8 := List.getD r_.2.2.1 (Int.toNat i_) ((0 : Int), ((0 : Int), ([] : List UInt8)));
 zqve r_ e.1 e2.2.1 (fun (rWhen : t0y) (rWhen2 : Bool) =>
 cond (!rWhen2)
 (k1 false ([] : List t2y))
 (let l : List t2y := ([((0 : Int), ((IntKind.i64.wrap (i_ + (1 : Int))), rWhen.2)), ((IntKind.i64.wrap (i_ + (1 : Int))), ((0 : Int), (IntKind.i64.wrap (0 - rWhen.1))))] : List t2y);
 cond (decide ((List.length out + List.length l) * 24 ≤ Q5))
 (let l2 : List t2y := (out ++ l);
 let i_2 : Int := (IntKind.i64.wrap (i_ + (1 : Int)));
 rec i_2 r_ l2)
 none)))
 none)
 none)
 (k2 r_ out)
def zq14i (m : Nat) {β : Type} (k1 : zq141 β) (k2 : zq142 β) : zq143 β := lp3 (fun r => zq14h r k1 k2) none m
theorem zq14j {β : Type} (i : Nat) (k1 k2) : zq14i (β := β) (i + 1) k1 k2 = zq14h (zq14i i k1 k2) k1 k2 := rfl
def zq14k {β : Type} := hid (zq14i (β := β) fuel)
noncomputable def zq14l : Pb := ⟨122, zq144, fun _ => zq14k, pl (p := zq144) zq140 [] (g := fun i _ => zq14i i) (by kernel_rfl) rfl (by kernel_rfl) (fun _ _ => rfl) fun _ _ _ _ => by kernel_rfl⟩
def zq14m {β : Type} (k1 : zq14e β) : zq14f β := fun i_ j a b d r_ out x =>
 cond (decide (0 ≤ x.1) && decide (x.1 < (List.length r_.1 : Int)))
 (let e : t5y := List.getD r_.1 (Int.toNat x.1) (([] : List UInt8), (0 : Int));
 zqhb e.2 d (fun (rElapsed : Int) (rElapsed2 : Int) =>
 let l : List t2y := ([(a, (b, rElapsed2)), (b, (a, (IntKind.i64.wrap (0 - rElapsed))))] : List t2y);
 cond (decide ((List.length out + List.length l) * 24 ≤ Q5))
 (let l2 : List t2y := (out ++ l);
 k1 i_ j r_ l2)
 none))
 none
def zq14n {β : Type} := hid (zq14m (β := β))
noncomputable def zq14o : Pb := ⟨207, zq14g, fun _ => zq14n, pe (p := zq14g) zq140 [] 207 (g := fun _ => zq14m) (by kernel_rfl) fun _ _ => by kernel_rfl⟩
def zq14p {β : Type} (rec : zq14c β) (k1 : zq14b β) : zq14c β := fun i_ j r_ out =>
 cond (decide (j < (List.length r_.2.2.1 : Int)))
 (cond (decide (0 ≤ i_) && decide (i_ < (List.length r_.2.2.1 : Int)))
 (let e : zq8 := List.getD r_.2.2.1 (Int.toNat i_) ((0 : Int), ((0 : Int), ([] : List UInt8)));
 cond (decide (0 ≤ j) && decide (j < (List.length r_.2.2.1 : Int)))
 (let e2 : zq8 := List.getD r_.2.2.1 (Int.toNat j) ((0 : Int), ((0 : Int), ([] : List UInt8)));
 cond (!decide (e.1 = e2.1))
 (let j2 : Int := (IntKind.i64.wrap (j + (1 : Int)));
 rec i_ j2 r_ out)
 (let a : Int := (IntKind.i64.wrap (i_ + (1 : Int)));
 let b : Int := (IntKind.i64.wrap (j + (1 : Int)));
 let d : Int := (IntKind.i64.wrap (e2.2.1 - e.2.1));
 cond (decide (d < (0 : Int)))
 (let d2 : Int := (IntKind.i64.wrap (0 - d));
 zq14n (fun (i_2 : Int) (j2 : Int) (r_2 : zqo) (out2 : List t2y) =>
 let j3 : Int := (IntKind.i64.wrap (j2 + (1 : Int)));
 rec i_2 j3 r_2 out2) i_ j b a d2 r_ out e)
 (zq14n (fun (i_2 : Int) (j2 : Int) (r_2 : zqo) (out2 : List t2y) =>
 let j3 : Int := (IntKind.i64.wrap (j2 + (1 : Int)));
 rec i_2 j3 r_2 out2) i_ j a b d r_ out e)))
 none)
 none)
 (k1 i_ r_ out)
def zq14q (m : Nat) {β : Type} (k1 : zq14b β) : zq14c β := lp4 (fun r => zq14p r k1) none m
theorem zq14r {β : Type} (i : Nat) (k1) : zq14q (β := β) (i + 1) k1 = zq14p (zq14q i k1) k1 := rfl
def zq14s {β : Type} := hid (zq14q (β := β) fuel)
noncomputable def zq14t : Pb := ⟨50, zq14d, fun _ => zq14s, pl (p := zq14d) zq140 [zq14o] (g := fun i _ => zq14q i) (by kernel_rfl) rfl (by kernel_rfl) (fun _ _ => rfl) fun _ _ _ _ => by kernel_rfl⟩
def zq14u {β : Type} (rec : zq146 β) (k1 : zq145 β) : zq146 β := fun i_ r_ out =>
 cond (decide (i_ < (List.length r_.2.2.1 : Int)))
 (let j : Int := (IntKind.i64.wrap (i_ + (1 : Int)));
 zq14s (fun (i_2 : Int) (r_2 : zqo) (out2 : List t2y) =>
 let i_3 : Int := (IntKind.i64.wrap (i_2 + (1 : Int)));
 rec i_3 r_2 out2) i_ j r_ out)
 (k1 r_ out)
def zq14v (m : Nat) {β : Type} (k1 : zq145 β) : zq146 β := lp3 (fun r => zq14u r k1) none m
theorem zq14w {β : Type} (i : Nat) (k1) : zq14v (β := β) (i + 1) k1 = zq14u (zq14v i k1) k1 := rfl
def zq14x {β : Type} := hid (zq14v (β := β) fuel)
noncomputable def zq14y : Pb := ⟨250, zq147, fun _ => zq14x, pl (p := zq147) zq140 [zq14t] (g := fun i _ => zq14v i) (by kernel_rfl) rfl (by kernel_rfl) (fun _ _ => rfl) fun _ _ _ _ => by kernel_rfl⟩
def zq14z {β : Type} (rec : zq149 β) (k1 : zq148 β) : zq149 β := fun i_ r_ out =>
 cond (decide (i_ < (List.length r_.2.2.2 : Int)))
 (cond (decide (0 ≤ i_) && decide (i_ < (List.length r_.2.2.2 : Int)))
 (let e : t2y := List.getD r_.2.2.2 (Int.toNat i_) ((0 : Int), ((0 : Int), (0 : Int)));
 cond (decide (0 ≤ i_) && decide (i_ < (List.length r_.2.2.2 : Int)))
 (let e2 : t2y := List.getD r_.2.2.2 (Int.toNat i_) ((0 : Int), ((0 : Int), (0 : Int)));
 cond (decide (0 ≤ i_) && decide (i_ < (List.length r_.2.2.2 : Int)))
 (let e3 : t2y := List.getD r_.2.2.2 (Int.toNat i_) ((0 : Int), ((0 : Int), (0 : Int)));
 let l : List t2y := ([((IntKind.i64.wrap (e.2.1 + (1 : Int))), ((IntKind.i64.wrap (e2.1 + (1 : Int))), (IntKind.i64.wrap (0 - e3.2.2))))] : List t2y);
 cond (decide ((List.length out + List.length l) * 24 ≤ Q5))
 (let l2 : List t2y := (out ++ l);
 let i_2 : Int := (IntKind.i64.wrap (i_ + (1 : Int)));
 rec i_2 r_ l2)
 none)
 none)
 none)
 none)
 (k1 out)
def zq150 (m : Nat) {β : Type} (k1 : zq148 β) : zq149 β := lp3 (fun r => zq14z r k1) none m
theorem zq151 {β : Type} (i : Nat) (k1) : zq150 (β := β) (i + 1) k1 = zq14z (zq150 i k1) k1 := rfl
def zq152 {β : Type} := hid (zq150 (β := β) fuel)
noncomputable def zq153 : Pb := ⟨506, zq14a, fun _ => zq152, pl (p := zq14a) zq140 [] (g := fun i _ => zq150 i) (by kernel_rfl) rfl (by kernel_rfl) (fun _ _ => rfl) fun _ _ _ _ => by kernel_rfl⟩
def zq154 : zq13z := fun r_ k =>
 zqh7 r_ (fun (rValid : Bool) =>
 cond (!rValid)
 (k false ([] : List t2y))
 (zq14k (fun (t3 : Bool) (t2 : List t2y) =>
 k t3 t2) (fun (r_2 : zqo) (out : List t2y) =>
 zq14x (fun (r_3 : zqo) (out2 : List t2y) =>
 zq152 (fun (out3 : List t2y) =>
 k true out3) (0 : Int) r_3 out2) (0 : Int) r_2 out) (0 : Int) r_ ([] : List t2y)))
def zq155 : zq13z := hid zq154
noncomputable def zq156 : En := ⟨114, .spec (sg [b49y] [] [b50y, b30y] [.row 222 (.prod (.int .i64) (.prod (.int .i64) (.int .i64)))] zq155), pf zq140 [zq14l, zq14y, zq153] [.tmp 2, .tmp 3] Tryz.func114 (by kernel_rfl) fun _ _ => by kernel_rfl⟩
abbrev zq157 := {β : Type} → zqo → (Bool → Option β) → Option β
noncomputable def zq158 : List En := [zqvj, zqio, zqis]
abbrev zq159 (β : Type) := Bool → Option β
abbrev zq15a (β : Type) := zqo → Option β
abbrev zq15b (β : Type) := t23y → Int → Int → zqo → Option β
noncomputable def zq15c : Pc := ⟨127, 0, Q1 58 (Q2 Tryz.f122), ⟨0, [1, 34, 35, 36], [b29y, (false, [.data (.slice (.prod .str (.int .i64)))]), b27y, b27y], [b39y]⟩, [(.ret, ⟨0, [2], [b30y], []⟩), (.exit 0, ⟨0, [1], [b29y], [b39y]⟩)]⟩
abbrev zq15d (β : Type) := Bool → Option β
abbrev zq15e (β : Type) := zqo → Option β
abbrev zq15f (β : Type) := t13y → Int → Int → zqo → Option β
noncomputable def zq15g : Pc := ⟨127, 0, Q1 122 (Q2 Tryz.f122), ⟨0, [1, 46, 47, 48], [b29y, (false, [.data (.slice zqd)]), b27y, b27y], [b39y]⟩, [(.ret, ⟨0, [2], [b30y], []⟩), (.exit 2, ⟨0, [1], [b29y], [b39y]⟩)]⟩
abbrev zq15h (β : Type) := Bool → Option β
abbrev zq15i (β : Type) := zqo → Option β
abbrev zq15j (β : Type) := t11y → Int → Int → zqo → Option β
noncomputable def zq15k : Pc := ⟨127, 0, Q1 250 (Q2 Tryz.f122), ⟨0, [1, 67, 68, 69], [b29y, b81y, b27y, b27y], [b39y]⟩, [(.ret, ⟨0, [2], [b30y], []⟩), (.exit 4, ⟨0, [1], [b29y], [b39y]⟩)]⟩
abbrev zq15l (β : Type) := Bool → Option β
abbrev zq15m (β : Type) := Unit → Option β
abbrev zq15n (β : Type) := t9y → Int → Int → zqo → Option β
noncomputable def zq15o : Pc := ⟨127, 0, Q1 506 (Q2 Tryz.f122), ⟨0, [1, 89, 90, 91], [b29y, b33y, b27y, b27y], [b39y]⟩, [(.ret, ⟨0, [2], [b30y], []⟩), (.exit 6, ⟨0, [], [], []⟩)]⟩
def zq15p {β : Type} (rec : zq15b β) (k1 : zq159 β) (k2 : zq15a β) : zq15b β := fun t34 t35 t36 r_ =>
 cond (decide (t36 < t35))
 (cond (decide (0 ≤ t36) && decide (t36 < (List.length t34 : Int)))
 (let e : t5y := List.getD t34 (Int.toNat t36) (([] : List UInt8), (0 : Int));
 zqin e.2 (0 : Int) (500000 : Int) (fun (rin : Bool) =>
 cond (!rin)
 (k1 false)
 (rec t34 t35 (IntKind.i64.wrap (t36 + (1 : Int))) r_)))
 none)
 (k2 r_)
def zq15q (m : Nat) {β : Type} (k1 : zq159 β) (k2 : zq15a β) : zq15b β := lp4 (fun r => zq15p r k1 k2) none m
theorem zq15r {β : Type} (i : Nat) (k1 k2) : zq15q (β := β) (i + 1) k1 k2 = zq15p (zq15q i k1 k2) k1 k2 := rfl
def zq15s {β : Type} := hid (zq15q (β := β) fuel)
noncomputable def zq15t : Pb := ⟨58, zq15c, fun _ => zq15s, pl (p := zq15c) zq158 [] (g := fun i _ => zq15q i) (by kernel_rfl) rfl (by kernel_rfl) (fun _ _ => rfl) fun _ _ _ _ => by kernel_rfl⟩
def zq15u {β : Type} (rec : zq15f β) (k1 : zq15d β) (k2 : zq15e β) : zq15f β := fun t46 t47 t48 r_ =>
 cond (decide (t48 < t47))
 (cond (decide (0 ≤ t48) && decide (t48 < (List.length t46 : Int)))
 (let e : zqc := List.getD t46 (Int.toNat t48) ((0 : Int), ((0 : Int), ((0 : Int), (0 : Int))));
 zqin e.1 (0 : Int) (IntKind.i64.wrap ((List.length r_.1 : Int) - (1 : Int))) (fun (rin : Bool) =>
 cond (!rin)
 (k1 false)
 (zqvi e (fun (rcompared : Bool) =>
 cond (!rcompared)
 (k1 false)
 (rec t46 t47 (IntKind.i64.wrap (t48 + (1 : Int))) r_)))))
 none)
 (k2 r_)
def zq15v (m : Nat) {β : Type} (k1 : zq15d β) (k2 : zq15e β) : zq15f β := lp4 (fun r => zq15u r k1 k2) none m
theorem zq15w {β : Type} (i : Nat) (k1 k2) : zq15v (β := β) (i + 1) k1 k2 = zq15u (zq15v i k1 k2) k1 k2 := rfl
def zq15x {β : Type} := hid (zq15v (β := β) fuel)
noncomputable def zq15y : Pb := ⟨122, zq15g, fun _ => zq15x, pl (p := zq15g) zq158 [] (g := fun i _ => zq15v i) (by kernel_rfl) rfl (by kernel_rfl) (fun _ _ => rfl) fun _ _ _ _ => by kernel_rfl⟩
def zq15z {β : Type} (rec : zq15j β) (k1 : zq15h β) (k2 : zq15i β) : zq15j β := fun t67 t68 t69 r_ =>
 cond (decide (t69 < t68))
 (cond (decide (0 ≤ t69) && decide (t69 < (List.length t67 : Int)))
 (let e : zq8 := List.getD t67 (Int.toNat t69) ((0 : Int), ((0 : Int), ([] : List UInt8)));
 zqin e.1 (0 : Int) (IntKind.i64.wrap ((List.length r_.1 : Int) - (1 : Int))) (fun (rin : Bool) =>
 cond (!rin)
 (k1 false)
 (zqir e.2.1 (fun (rinstant : Bool) =>
 cond (!rinstant)
 (k1 false)
 (rec t67 t68 (IntKind.i64.wrap (t69 + (1 : Int))) r_)))))
 none)
 (k2 r_)
def zq160 (m : Nat) {β : Type} (k1 : zq15h β) (k2 : zq15i β) : zq15j β := lp4 (fun r => zq15z r k1 k2) none m
theorem zq161 {β : Type} (i : Nat) (k1 k2) : zq160 (β := β) (i + 1) k1 k2 = zq15z (zq160 i k1 k2) k1 k2 := rfl
def zq162 {β : Type} := hid (zq160 (β := β) fuel)
noncomputable def zq163 : Pb := ⟨250, zq15k, fun _ => zq162, pl (p := zq15k) zq158 [] (g := fun i _ => zq160 i) (by kernel_rfl) rfl (by kernel_rfl) (fun _ _ => rfl) fun _ _ _ _ => by kernel_rfl⟩
def zq164 {β : Type} (rec : zq15n β) (k1 : zq15l β) (k2 : zq15m β) : zq15n β := fun t89 t90 t91 r_ =>
 cond (decide (t91 < t90))
 (cond (decide (0 ≤ t91) && decide (t91 < (List.length t89 : Int)))
 (let e : t2y := List.getD t89 (Int.toNat t91) ((0 : Int), ((0 : Int), (0 : Int)));
 zqin e.1 (0 : Int) (IntKind.i64.wrap ((List.length r_.2.2.1 : Int) - (1 : Int))) (fun (rin : Bool) =>
 cond (!rin)
 (k1 false)
 (zqin e.2.1 (0 : Int) (IntKind.i64.wrap ((List.length r_.2.2.1 : Int) - (1 : Int))) (fun (rin2 : Bool) =>
 cond (!rin2)
 (k1 false)
 (cond (decide (e.1 = e.2.1))
 (k1 false)
 (zqir e.2.2 (fun (rinstant : Bool) =>
 cond (!rinstant)
 (k1 false)
 (rec t89 t90 (IntKind.i64.wrap (t91 + (1 : Int))) r_))))))))
 none)
 (k2 ())
def zq165 (m : Nat) {β : Type} (k1 : zq15l β) (k2 : zq15m β) : zq15n β := lp4 (fun r => zq164 r k1 k2) none m
theorem zq166 {β : Type} (i : Nat) (k1 k2) : zq165 (β := β) (i + 1) k1 k2 = zq164 (zq165 i k1 k2) k1 k2 := rfl
def zq167 {β : Type} := hid (zq165 (β := β) fuel)
noncomputable def zq168 : Pb := ⟨506, zq15o, fun _ => zq167, pl (p := zq15o) zq158 [] (g := fun i _ => zq165 i) (by kernel_rfl) rfl (by kernel_rfl) (fun _ _ => rfl) fun _ _ _ _ => by kernel_rfl⟩
def zq169 : zq157 := fun r_ k =>
 cond (decide ((8 : Int) < (List.length r_.1 : Int)))
 (k false)
 (cond (decide ((64 : Int) < (List.length r_.2.1 : Int)))
 (k false)
 (cond (decide ((40 : Int) < (List.length r_.2.2.1 : Int)))
 (k false)
 (cond (decide ((64 : Int) < (List.length r_.2.2.2 : Int)))
 (k false)
 (zq15s (fun (t2 : Bool) =>
 k t2) (fun (r_2 : zqo) =>
 zq15x (fun (t2 : Bool) =>
 k t2) (fun (r_3 : zqo) =>
 zq162 (fun (t2 : Bool) =>
 k t2) (fun (r_4 : zqo) =>
 zq167 (fun (t2 : Bool) =>
 k t2) (fun (_ : Unit) =>
 k true) r_4.2.2.2 (List.length r_4.2.2.2 : Int) (0 : Int) r_4) r_3.2.2.1 (List.length r_3.2.2.1 : Int) (0 : Int) r_3) r_2.2.1 (List.length r_2.2.1 : Int) (0 : Int) r_2) r_.1 (List.length r_.1 : Int) (0 : Int) r_))))
def zq16a : zq157 := hid zq169
noncomputable def zq16b : En := ⟨122, .spec (sg [b49y] [] [b30y] [] zq16a), pf zq158 [zq15t, zq15y, zq163, zq168] [.tmp 2] Tryz.func122 (by kernel_rfl) fun _ _ => by kernel_rfl⟩
abbrev zq16c := {β : Type} → zqo → Int → Int → (t9y → Option β) → Option β
noncomputable def zq16d : List En := [zqvn]
abbrev zq16e (β : Type) := t9y → Option β
abbrev zq16f (β : Type) := Int → Int → zqo → zq8 → zq8 → Option β
noncomputable def zq16g : Pc := ⟨60, 0, Q1 15 (Q2 Tryz.f124), ⟨0, [1, 2, 3, 7, 8], [b27y, b27y, b29y, b34y, b37y], [b39y, b86y, b86y]⟩, [(.ret, ⟨0, [6], [b50y], [.row 222 (.prod (.int .i64) (.prod (.int .i64) (.int .i64)))]⟩)]⟩
def zq16h {β : Type} (k1 : zq16e β) : zq16f β := fun i_ j r_ a b =>
 cond (decide (0 ≤ a.1) && decide (a.1 < (List.length r_.1 : Int)))
 (let e : t5y := List.getD r_.1 (Int.toNat a.1) (([] : List UInt8), (0 : Int));
 zqvm e.2 (IntKind.i64.wrap (b.2.1 - a.2.1)) (fun (rElapsed : Int) (rElapsed2 : Int) =>
 let l : List t2y := ([((IntKind.i64.wrap (i_ + (1 : Int))), ((IntKind.i64.wrap (j + (1 : Int))), rElapsed2)), ((IntKind.i64.wrap (j + (1 : Int))), ((IntKind.i64.wrap (i_ + (1 : Int))), (IntKind.i64.wrap (0 - rElapsed))))] : List t2y);
 k1 l))
 none
def zq16i {β : Type} := hid (zq16h (β := β))
noncomputable def zq16j : Pb := ⟨15, zq16g, fun _ => zq16i, pe (p := zq16g) zq16d [] 15 (g := fun _ => zq16h) (by kernel_rfl) fun _ _ => by kernel_rfl⟩
def zq16k : zq16c := fun r_ i_ j k =>
 cond (decide (0 ≤ i_) && decide (i_ < (List.length r_.2.2.1 : Int)))
 (let e : zq8 := List.getD r_.2.2.1 (Int.toNat i_) ((0 : Int), ((0 : Int), ([] : List UInt8)));
 cond (decide (0 ≤ j) && decide (j < (List.length r_.2.2.1 : Int)))
 (let e2 : zq8 := List.getD r_.2.2.1 (Int.toNat j) ((0 : Int), ((0 : Int), ([] : List UInt8)));
 cond (decide (e2.2.1 < e.2.1))
 (zq16i (fun (t6 : List t2y) =>
 k t6) j i_ r_ e2 e)
 (zq16i (fun (t6 : List t2y) =>
 k t6) i_ j r_ e e2))
 none)
 none
def zq16l : zq16c := hid zq16k
noncomputable def zq16m : En := ⟨124, .spec (sg [b49y, b27y, b27y] [] [b50y] [.row 222 (.prod (.int .i64) (.prod (.int .i64) (.int .i64)))] zq16l), pf zq16d [zq16j] [.tmp 6] Tryz.func124 (by kernel_rfl) fun _ _ => by kernel_rfl⟩
abbrev zq16n := {β : Type} → t5y → zqc → Int → (t0y → Option β) → Option β
def zq16o : zq16n := fun h s clock k =>
 zqin h.2 (0 : Int) (500000 : Int) (fun (rin : Bool) =>
 cond (!rin)
 (k ((-1099511627776 : Int), (1099511627776 : Int)))
 (zqvi s (fun (rcompared : Bool) =>
 cond (!rcompared)
 (k ((-1099511627776 : Int), (1099511627776 : Int)))
 (zqir clock (fun (rinstant : Bool) =>
 cond (!rinstant)
 (k ((-1099511627776 : Int), (1099511627776 : Int)))
 (cond (decide (s.2.1 ≤ clock))
 (zqvm h.2 (IntKind.i64.wrap (clock - s.2.1)) (fun (rElapsed : Int) (rElapsed2 : Int) =>
 k ((IntKind.i64.wrap (s.2.2.1 + rElapsed)), (IntKind.i64.wrap (s.2.2.2 + rElapsed2)))))
 (zqvm h.2 (IntKind.i64.wrap (s.2.1 - clock)) (fun (rElapsed : Int) (rElapsed2 : Int) =>
 k ((IntKind.i64.wrap (s.2.2.1 - rElapsed2)), (IntKind.i64.wrap (s.2.2.2 - rElapsed)))))))))))
def zq16p : zq16n := hid zq16o
noncomputable def zq16q : En := ⟨152, .spec (sg [(true, [.data (.prod .str (.int .i64))]), (true, [.data zqd]), b27y] [] [b35y] [] zq16p), pf [zqvn, zqvj, zqio, zqis] [] [.cell 6 57] Tryz.func152 (by kernel_rfl) fun _ _ => by kernel_rfl⟩
abbrev zq16r := {β : Type} → t26y → Int → (Int → Option β) → Option β
noncomputable def zq16s : List En := [zqy4]
abbrev zq16t (β : Type) := Int → Option β
abbrev zq16u (β : Type) := Unit → Option β
abbrev zq16v (β : Type) := t26y → Int → Int → Option β
noncomputable def zq16w : Pc := ⟨26, 0, Q1 58 (Q2 Tryz.f180), ⟨0, [0, 1, 5], [(false, [.data (.slice .str)]), b27y, b27y], []⟩, [(.ret, ⟨0, [4], [b27y], []⟩), (.exit 0, ⟨0, [], [], []⟩)]⟩
def zq16x {β : Type} (rec : zq16v β) (k1 : zq16t β) (k2 : zq16u β) : zq16v β := fun l i_ k_ =>
 cond (decide (k_ < i_))
 (cond (decide (0 ≤ k_) && decide (k_ < (List.length l : Int)))
 (let e : List UInt8 := List.getD l (Int.toNat k_) ([] : List UInt8);
 cond (decide (0 ≤ i_) && decide (i_ < (List.length l : Int)))
 (let e2 : List UInt8 := List.getD l (Int.toNat i_) ([] : List UInt8);
 cond (decide (e = e2))
 (k1 (4 : Int))
 (let k_2 : Int := (IntKind.i64.wrap (k_ + (1 : Int)));
 rec l i_ k_2))
 none)
 none)
 (k2 ())
def zq16y (m : Nat) {β : Type} (k1 : zq16t β) (k2 : zq16u β) : zq16v β := lp3 (fun r => zq16x r k1 k2) none m
theorem zq16z {β : Type} (i : Nat) (k1 k2) : zq16y (β := β) (i + 1) k1 k2 = zq16x (zq16y i k1 k2) k1 k2 := rfl
def zq170 {β : Type} := hid (zq16y (β := β) fuel)
noncomputable def zq171 : Pb := ⟨58, zq16w, fun _ => zq170, pl (p := zq16w) zq16s [] (g := fun i _ => zq16y i) (by kernel_rfl) rfl (by kernel_rfl) (fun _ _ => rfl) fun _ _ _ _ => by kernel_rfl⟩
def zq172 : zq16r := fun l i_ k =>
 cond (decide (0 ≤ i_) && decide (i_ < (List.length l : Int)))
 (let e : List UInt8 := List.getD l (Int.toNat i_) ([] : List UInt8);
 zqy3 e (fun (rName : Bool) =>
 cond (!rName)
 (k (2 : Int))
 (zq170 (fun (t4 : Int) =>
 k t4) (fun (_ : Unit) =>
 k (0 : Int)) l i_ (0 : Int))))
 none
def zq173 : zq16r := hid zq172
noncomputable def zq174 : En := ⟨180, .spec (sg [(false, [.data (.slice .str)]), b27y] [] [b27y] [] zq173), pf zq16s [zq171] [.tmp 4] Tryz.func180 (by kernel_rfl) fun _ _ => by kernel_rfl⟩
abbrev zq175 := {β : Type} → t2y → (Int → Int → Option β) → Option β
noncomputable def zq176 : List En := [zqyn, zqyr, zqll]
abbrev zq177 (β : Type) := Int → t2y → Option β
abbrev zq178 (β : Type) := Int → Int → t2y → Option β
noncomputable def zq179 : Pc := ⟨29, 0, Q1 122 (Q2 Tryz.f206), ⟨0, [1, 4, 5], [b29y, b27y, b27y], [.cells 293 [.data (.prod (.int .i64) (.prod (.int .i64) (.int .i64)))]]⟩, [(.exit 0, ⟨0, [1, 4], [b29y, b27y], [.cells 293 [.data (.prod (.int .i64) (.prod (.int .i64) (.int .i64)))]]⟩)]⟩
def zq17a {β : Type} (rec : zq178 β) (k1 : zq177 β) : zq178 β := fun n m d =>
 cond (decide (m < d.2.1))
 (zqym d.1 m (fun (rDays : Int) =>
 let n2 : Int := (IntKind.i64.wrap (n + rDays));
 let m2 : Int := (IntKind.i64.wrap (m + (1 : Int)));
 rec n2 m2 d))
 (k1 n d)
def zq17b (m : Nat) {β : Type} (k1 : zq177 β) : zq178 β := lp3 (fun r => zq17a r k1) none m
theorem zq17c {β : Type} (i : Nat) (k1) : zq17b (β := β) (i + 1) k1 = zq17a (zq17b i k1) k1 := rfl
def zq17d {β : Type} := hid (zq17b (β := β) fuel)
noncomputable def zq17e : Pb := ⟨122, zq179, fun _ => zq17d, pl (p := zq179) zq176 [] (g := fun i _ => zq17b i) (by kernel_rfl) rfl (by kernel_rfl) (fun _ _ => rfl) fun _ _ _ _ => by kernel_rfl⟩
def zq17f : zq175 := fun d k =>
 zqyq d (fun (rValid : Bool) =>
 cond (!rValid)
 (k (0 : Int) (1 : Int))
 (zqlk d.1 (fun (ryear : Int) =>
 zq17d (fun (n : Int) (d2 : t2y) =>
 let t : Int := (IntKind.i64.wrap ((IntKind.i64.wrap (n + d2.2.2)) - (1 : Int)));
 k t (0 : Int)) ryear (1 : Int) d)))
def zq17g : zq175 := hid zq17f
noncomputable def zq17h : En := ⟨206, .spec (sg [b70y] [] [b27y, b27y] [] zq17g), pf zq176 [zq17e] [.tmp 2, .tmp 3] Tryz.func206 (by kernel_rfl) fun _ _ => by kernel_rfl⟩
abbrev zq17i := {β : Type} → t10y → (Int → Option β) → Option β
noncomputable def zq17j : List En := [zqcc]
abbrev zq17k (β : Type) := Int → Option β
abbrev zq17l (β : Type) := Unit → Option β
abbrev zq17m (β : Type) := t10y → Int → Int → Option β
noncomputable def zq17n : Pc := ⟨19, 0, Q1 26 (Q2 Tryz.f116), ⟨0, [0, 1, 7, 8], [b31y, (false, [.fn 95 []]), b27y, b27y], []⟩, [(.ret, ⟨0, [4], [b27y], []⟩), (.exit 0, ⟨0, [], [], []⟩)]⟩
def zq17o {β : Type} (rec : zq17m β) (k1 : zq17k β) (k2 : zq17l β) : zq17m β := fun s t7 t8 =>
 cond (decide (t8 < t7))
 (cond (decide (0 ≤ t8) && decide (t8 < (List.length s : Int)))
 (let e : t0y := List.getD s (Int.toNat t8) ((0 : Int), (0 : Int));
 zqcb e (fun (rcheck1 : Bool) =>
 cond rcheck1
 (k1 t8)
 (rec s t7 (IntKind.i64.wrap (t8 + (1 : Int))))))
 none)
 (k2 ())
def zq17p (m : Nat) {β : Type} (k1 : zq17k β) (k2 : zq17l β) : zq17m β := lp3 (fun r => zq17o r k1 k2) none m
theorem zq17q {β : Type} (i : Nat) (k1 k2) : zq17p (β := β) (i + 1) k1 k2 = zq17o (zq17p i k1 k2) k1 k2 := rfl
def zq17r {β : Type} := hid (zq17p (β := β) fuel)
noncomputable def zq17s : Pb := ⟨26, zq17n, fun _ => zq17r, pl (p := zq17n) zq17j [] (g := fun i _ => zq17p i) (by kernel_rfl) rfl (by kernel_rfl) (fun _ _ => rfl) fun _ _ _ _ => by kernel_rfl⟩
def zq17t : zq17i := fun s k =>
 zq17r (fun (t4 : Int) =>
 k t4) (fun (_ : Unit) =>
 k (-1 : Int)) s (List.length s : Int) (0 : Int)
def zq17u : zq17i := hid zq17t
noncomputable def zq17v : En := ⟨116, .spec (sg [b31y, (false, [.fn 95 []])] [] [b27y] [] zq17u), pf zq17j [zq17s] [.tmp 4] Tryz.func116 (by kernel_rfl) fun _ _ => by kernel_rfl⟩
abbrev zq17w := {β : Type} → Int → Int → t1y → (zqw → t1y → Option β) → Option β
noncomputable def zq17x : List En := [zq1t, zq2b, zq126, zq115, zq12a, zq12v, zq11o, zq111, zq12e, zq12r]
abbrev zq17y (β : Type) := t1y → zqw → zqw → Option β
abbrev zq17z (β : Type) := Int → Int → t1y → zqw → zqw → Option β
noncomputable def zq180 : Pc := ⟨123, 1, Q1 122 (Q2 Tryz.f9), ⟨1, [0, 6, 7, 9, 10], [b29y, b34y, b37y, b27y, b27y], [b28y, b32y, b32y]⟩, [(.exit 0, ⟨1, [6, 7], [b34y, b37y], [b28y, b32y, b32y]⟩)]⟩
abbrev zq181 (β : Type) := Int → Int → Int → t1y → zqw → zqw → zqw → Option β
abbrev zq182 (β : Type) := Int → Int → Int → Int → Bool → t1y → zqw → zqw → zqw → Option β
noncomputable def zq183 : Pc := ⟨123, 1, Q1 3287 (Qb zq180.c), ⟨1, [0, 6, 7, 9, 10, 11, 12, 44, 57], [b29y, b34y, b37y, b27y, b27y, b51y, b27y, b27y, b30y], [b28y, b32y, b32y, b32y]⟩, [(.normal, ⟨1, [0, 6, 7, 9, 10, 11, 12], [b29y, b34y, b37y, b27y, b27y, b51y, b27y], [b28y, b32y, b32y, b32y]⟩)]⟩
def zq184 {β : Type} (k1 : zq181 β) : zq182 β := fun now i_ e t44 t57 d t6 x y =>
 cond t57
 (zq1s (5 : Int) d (fun (rNext : Int) (mrNext : t1y) =>
 zq1s (4 : Int) mrNext (fun (rNext2 : Int) (mrNext2 : t1y) =>
 zq11n x now rNext rNext2 (fun (rMove : zqw) (rMove2 : Int) =>
 k1 now i_ rMove2 mrNext2 t6 x rMove))))
 (let t : Bool := (decide (t44 = (4 : Int)));
 cond t
 (zq1s (4 : Int) d (fun (rNext : Int) (mrNext : t1y) =>
 zq125 x now rNext ([100, 111, 32, 105, 116] : List UInt8) (fun (rAdd : zqw) (rAdd2 : Int) =>
 k1 now i_ rAdd2 mrNext t6 x rAdd)))
 (let t2 : Bool := (decide (t44 = (5 : Int)));
 cond t2
 (zq1s (3 : Int) d (fun (rNext : Int) (mrNext : t1y) =>
 zq129 x rNext now (fun (rFinish : zqw) (rFinish2 : Int) =>
 k1 now i_ rFinish2 mrNext t6 x rFinish)))
 (let t3 : Bool := (decide (t44 = (6 : Int)));
 cond t3
 (zq1s (6 : Int) d (fun (rNext : Int) (mrNext : t1y) =>
 zq12d x rNext (fun (rSubscribe : zqw) (rSubscribe2 : Int) =>
 k1 now i_ rSubscribe2 mrNext t6 x rSubscribe)))
 (let t4 : Bool := (decide (t44 = (7 : Int)));
 cond t4
 (zq12q x now ([110, 101, 119, 115] : List UInt8) (fun (rTell : zqw) (rTell2 : Int) (lrTell : List Int) =>
 k1 now i_ rTell2 d t6 x rTell))
 (let t5 : Bool := (decide (t44 = (8 : Int)));
 cond t5
 (zq1s (5 : Int) d (fun (rNext : Int) (mrNext : t1y) =>
 zq12u x (IntKind.i64.wrap ((1 : Int) + rNext)) (fun (rLink : zqw) (rLink2 : Int) =>
 k1 now i_ rLink2 mrNext t6 x rLink)))
 (k1 now i_ e d t6 x y))))))
def zq185 {β : Type} := hid (zq184 (β := β))
noncomputable def zq186 : Pb := ⟨3287, zq183, fun _ => zq185, pe (p := zq183) zq17x [] 3287 (g := fun _ => zq184) (by kernel_rfl) fun _ _ => by kernel_rfl⟩
def zq187 {β : Type} (rec : zq17z β) (k1 : zq17y β) : zq17z β := fun now i_ d t6 x =>
 cond (decide ((0 : Int) < i_))
 (let l : List Int := ([(0 : Int), (5 : Int), (60 : Int)] : List Int);
 zq2a l d (fun (rOne : Int) (mrOne : t1y) =>
 let now2 : Int := (IntKind.i64.wrap (now + rOne));
 zq1s (9 : Int) mrOne (fun (rNext : Int) (mrNext : t1y) =>
 let t : Bool := (decide (rNext = (0 : Int)));
 cond t
 (zq1s (3 : Int) mrNext (fun (rNext2 : Int) (mrNext2 : t1y) =>
 zq1s (5 : Int) mrNext2 (fun (rNext3 : Int) (mrNext3 : t1y) =>
 zq114 x rNext2 (IntKind.i64.wrap (rNext3 - (1 : Int))) (fun (rAssign : zqw) (rAssign2 : Int) =>
 cond (decide (rAssign2 = (0 : Int)))
 (let i_2 : Int := (IntKind.i64.wrap (i_ - (1 : Int)));
 rec now2 i_2 mrNext3 t6 rAssign)
 (let i_2 : Int := (IntKind.i64.wrap (i_ - (1 : Int)));
 rec now2 i_2 mrNext3 t6 x)))))
 (let t2 : Bool := (decide (rNext = (1 : Int)));
 cond t2
 (zq185 (fun (now3 : Int) (i_2 : Int) (e : Int) (d2 : t1y) (t62 : zqw) (x2 : zqw) (y : zqw) =>
 cond (decide (e = (0 : Int)))
 (let i_3 : Int := (IntKind.i64.wrap (i_2 - (1 : Int)));
 rec now3 i_3 d2 t62 y)
 (let i_3 : Int := (IntKind.i64.wrap (i_2 - (1 : Int)));
 rec now3 i_3 d2 t62 x2)) now2 i_ (0 : Int) rNext t2 mrNext t6 x x)
 (let t3 : Bool := (decide (rNext = (2 : Int)));
 cond t3
 (zq185 (fun (now3 : Int) (i_2 : Int) (e : Int) (d2 : t1y) (t62 : zqw) (x2 : zqw) (y : zqw) =>
 cond (decide (e = (0 : Int)))
 (let i_3 : Int := (IntKind.i64.wrap (i_2 - (1 : Int)));
 rec now3 i_3 d2 t62 y)
 (let i_3 : Int := (IntKind.i64.wrap (i_2 - (1 : Int)));
 rec now3 i_3 d2 t62 x2)) now2 i_ (0 : Int) rNext t3 mrNext t6 x x)
 (let t4 : Bool := (decide (rNext = (3 : Int)));
 zq185 (fun (now3 : Int) (i_2 : Int) (e : Int) (d2 : t1y) (t62 : zqw) (x2 : zqw) (y : zqw) =>
 cond (decide (e = (0 : Int)))
 (let i_3 : Int := (IntKind.i64.wrap (i_2 - (1 : Int)));
 rec now3 i_3 d2 t62 y)
 (let i_3 : Int := (IntKind.i64.wrap (i_2 - (1 : Int)));
 rec now3 i_3 d2 t62 x2)) now2 i_ (0 : Int) rNext t4 mrNext t6 x x))))))
 (k1 d t6 x)
def zq188 (m : Nat) {β : Type} (k1 : zq17y β) : zq17z β := lp5 (fun r => zq187 r k1) none m
theorem zq189 {β : Type} (i : Nat) (k1) : zq188 (β := β) (i + 1) k1 = zq187 (zq188 i k1) k1 := rfl
def zq18a {β : Type} := hid (zq188 (β := β) fuel)
noncomputable def zq18b : Pb := ⟨122, zq180, fun _ => zq18a, pl (p := zq180) zq17x [zq186] (g := fun i _ => zq188 i) (by kernel_rfl) rfl (by kernel_rfl) (fun _ _ => rfl) fun _ _ _ _ => by kernel_rfl⟩
def zq18c : zq17w := fun id n d k =>
 let l : List Int := ([(0 : Int), (50 : Int)] : List Int);
 zq2a l d (fun (rOne : Int) (mrOne : t1y) =>
 zq1s (5 : Int) mrOne (fun (rNext : Int) (mrNext : t1y) =>
 zq1s (3 : Int) mrNext (fun (rNext2 : Int) (mrNext2 : t1y) =>
 zq110 id (IntKind.i64.wrap ((864000 : Int) + rOne)) (IntKind.i64.wrap ((1 : Int) + rNext)) ([116, 114, 111, 117, 98, 108, 101] : List UInt8) rNext2 (fun (rOpen : zqw) (rOpen2 : Int) =>
 zq1s (IntKind.i64.wrap (n + (1 : Int))) mrNext2 (fun (rNext3 : Int) (mrNext3 : t1y) =>
 zq18a (fun (b0_ : t1y) (t6 : zqw) (x : zqw) =>
 k x b0_) rOpen.2.2.2.1 rNext3 mrNext3 zq1h rOpen)))))
def zq18d : zq17w := hid zq18c
noncomputable def zq18e : En := ⟨9, .spec (sg [b29y, b27y, b27y] [b28y] [b43y] [b28y] zq18d), pf zq17x [zq18b] [.cell 6 46] Tryz.func9 (by kernel_rfl) fun _ _ => by kernel_rfl⟩
abbrev zq18f := {β : Type} → zqw → t21y → (zqu → Int → Option β) → Option β
noncomputable def zq18g : List En := [zq13y, zq42, zq3y, zqq9]
abbrev zq18h (β : Type) := zqw → zqu → zqu → Option β
abbrev zq18i (β : Type) := t21y → Int → Int → zqw → zqu → zqu → (List (Int × Bool)) → Option β
noncomputable def zq18j : Pc := ⟨144, 0, Q1 250 (Q2 Tryz.f12), ⟨0, [2, 4, 6, 7, 26, 27, 28], [b29y, b34y, b37y, (false, [.maph 3]), b57y, b27y, b27y], [b32y, b36y, b36y, .map 140 (.int .i64) .bool false]⟩, [(.exit 0, ⟨0, [2, 4, 6], [b29y, b34y, b37y], [b32y, b36y, b36y]⟩)]⟩
abbrev zq18k (β : Type) := zqu → zqu → Option β
abbrev zq18l (β : Type) := t9y → Int → Int → zqw → zqu → zqu → Option β
noncomputable def zq18m : Pc := ⟨144, 0, Q1 506 (Q2 Tryz.f12), ⟨0, [2, 4, 6, 100, 101, 102], [b29y, b34y, b37y, b33y, b27y, b27y], [b32y, b36y, b36y]⟩, [(.exit 4, ⟨0, [4, 6], [b29y, b34y], [b36y, b36y]⟩)]⟩
abbrev zq18n (β : Type) := t21y → Int → Int → zqw → zqu → zqu → (List (Int × Bool)) → zqy → Option β
abbrev zq18o (β : Type) := t21y → Int → Int → (List t4y) → Int → Int → zqw → zqu → zqu → (List (Int × Bool)) → zqy → Option β
noncomputable def zq18p : Pc := ⟨144, 0, Q1 7418 (Qb zq18j.c), ⟨0, [2, 4, 6, 7, 9, 26, 27, 28, 59, 60, 61], [b29y, b34y, b37y, (false, [.maph 3]), b78y, b57y, b27y, b27y, (false, [.data (.slice (.prod (.int .i64) (.prod (.int .i64) (.slice (.int .i64)))))]), b27y, b27y], [b32y, b36y, b36y, .map 140 (.int .i64) .bool false, b38y]⟩, [(.exit 2, ⟨0, [2, 4, 6, 7, 9, 26, 27, 28], [b29y, b34y, b37y, (false, [.maph 3]), b78y, b57y, b27y, b27y], [b32y, b36y, b36y, .map 140 (.int .i64) .bool false, b38y]⟩)]⟩
abbrev zq18q (β : Type) := t9y → Int → Int → zqw → zqu → zqu → Option β
abbrev zq18r (β : Type) := t9y → Int → Int → Bool → zqw → zqu → zqu → t2y → Option β
noncomputable def zq18s : Pc := ⟨144, 0, Q1 231 (Qb zq18m.c), ⟨0, [2, 4, 6, 14, 100, 101, 102, 134], [b29y, b34y, b37y, b51y, b33y, b27y, b27y, b30y], [b32y, b36y, b36y, b69y]⟩, [(.normal, ⟨0, [2, 4, 6, 100, 101, 102], [b29y, b34y, b37y, b33y, b27y, b27y], [b32y, b36y, b36y]⟩)]⟩
abbrev zq18t (β : Type) := t9y → Int → Int → zqw → zqu → zqu → Option β
abbrev zq18u (β : Type) := t9y → Int → Int → zqw → zqu → zqu → t2y → Option β
noncomputable def zq18v : Pc := ⟨144, 0, Q1 115 (Qb zq18m.c), ⟨0, [2, 4, 6, 14, 100, 101, 102], [b29y, b34y, b37y, b51y, b33y, b27y, b27y], [b32y, b36y, b36y, b69y]⟩, [(.normal, ⟨0, [2, 4, 6, 100, 101, 102], [b29y, b34y, b37y, b33y, b27y, b27y], [b32y, b36y, b36y]⟩)]⟩
abbrev zq18w (β : Type) := t9y → Int → Int → zqw → zqu → zqu → t2y → Option β
abbrev zq18x (β : Type) := t9y → Int → Int → Bool → zqw → zqu → zqu → t2y → Option β
noncomputable def zq18y : Pc := ⟨144, 0, Q1 229 (Qb zq18m.c), ⟨0, [2, 4, 6, 14, 100, 101, 102, 114], [b29y, b34y, b37y, b51y, b33y, b27y, b27y, b30y], [b32y, b36y, b36y, b69y]⟩, [(.normal, ⟨0, [2, 4, 6, 14, 100, 101, 102], [b29y, b34y, b37y, b51y, b33y, b27y, b27y], [b32y, b36y, b36y, b69y]⟩)]⟩
def zq18z {β : Type} (rec : zq18o β) (k1 : zq18n β) : zq18o β := fun t26 t27 t28 t59 t60 t61 x t4 out seen p_ =>
 cond (decide (t61 < t60))
 (cond (decide (0 ≤ t61) && decide (t61 < (List.length t59 : Int)))
 (let e : t4y := List.getD t59 (Int.toNat t61) ((0 : Int), ((0 : Int), ([] : List Int)));
 rec t26 t27 t28 t59 t60 (IntKind.i64.wrap (t61 + (1 : Int))) x t4 (out.1, (out.2.1, (out.2.2.1, (out.2.2.2.1, (out.2.2.2.2.1, ((IntKind.i64.wrap (out.2.2.2.2.2.1 + (List.length e.2.2 : Int))), out.2.2.2.2.2.2)))))) seen p_)
 none)
 (k1 t26 t27 t28 x t4 out seen p_)
def zq190 (m : Nat) {β : Type} (k1 : zq18n β) : zq18o β := lp11 (fun r => zq18z r k1) none m
theorem zq191 {β : Type} (i : Nat) (k1) : zq190 (β := β) (i + 1) k1 = zq18z (zq190 i k1) k1 := rfl
def zq192 {β : Type} := hid (zq190 (β := β) fuel)
noncomputable def zq193 : Pb := ⟨7418, zq18p, fun _ => zq192, pl (p := zq18p) zq18g [] (g := fun i _ => zq190 i) (by kernel_rfl) rfl (by kernel_rfl) (fun _ _ => rfl) fun _ _ _ _ => by kernel_rfl⟩
def zq194 {β : Type} (rec : zq18i β) (k1 : zq18h β) : zq18i β := fun t26 t27 t28 x t4 out seen =>
 cond (decide (t28 < t27))
 (cond (decide (0 ≤ t28) && decide (t28 < (List.length t26 : Int)))
 (let e : zqy := List.getD t26 (Int.toNat t28) ((0 : Int), ((0 : Int), ((0 : Int), ((0 : Int), ((0 : Int), ((0 : Int), ((0 : Int), ((0 : Int), ((0 : Int), ((0 : Int), ((0 : Int), (([] : List t4y), (([] : List Int), ([] : List Int))))))))))))));
 let g : Bool := (mGet (.int .i64) seen e.1 false);
 cond g
 (rec t26 t27 (IntKind.i64.wrap (t28 + (1 : Int))) x t4 out seen)
 (zqq8 x.2.2.2.2.2.2.1 e.1 (fun (rContainsintint : Bool) =>
 cond (!rContainsintint)
 (rec t26 t27 (IntKind.i64.wrap (t28 + (1 : Int))) x t4 out seen)
 (let m_ : List (Int × Bool) := (mPut (.int .i64) seen e.1 true);
 zq192 (fun (t262 : List zqy) (t272 : Int) (t282 : Int) (x2 : zqw) (t42 : zqu) (out2 : zqu) (seen2 : List (Int × Bool)) (p_ : zqy) =>
 let n : Int := (if (IntKind.i64.wrap (p_.2.2.2.2.2.2.2.2.1 - x2.2.2.2.1)) > (0 : Int) then (IntKind.i64.wrap (p_.2.2.2.2.2.2.2.2.1 - x2.2.2.2.1)) else (0 : Int));
 cond (decide (p_.2.2.2.2.2.1 = (1 : Int)))
 (zq3x  (fun (rnever : t0y) =>
 cond (decide (out2.2.1.1 = rnever.1) && (decide (out2.2.1.2 = rnever.2) && true))
 (zq41 n (fun (rexactly : t0y) =>
 rec t262 t272 (IntKind.i64.wrap (t282 + (1 : Int))) x2 t42 (out2.1, (rexactly, out2.2.2)) seen2))
 (cond (decide (n < out2.2.1.1))
 (zq41 n (fun (rexactly : t0y) =>
 rec t262 t272 (IntKind.i64.wrap (t282 + (1 : Int))) x2 t42 (out2.1, (rexactly, out2.2.2)) seen2))
 (rec t262 t272 (IntKind.i64.wrap (t282 + (1 : Int))) x2 t42 out2 seen2))))
 (rec t262 t272 (IntKind.i64.wrap (t282 + (1 : Int))) x2 t42 out2 seen2)) t26 t27 t28 e.2.2.2.2.2.2.2.2.2.2.2.1 (List.length e.2.2.2.2.2.2.2.2.2.2.2.1 : Int) (0 : Int) x t4 (out.1, (out.2.1, (out.2.2.1, (out.2.2.2.1, ((IntKind.i64.wrap (out.2.2.2.2.1 + (1 : Int))), (out.2.2.2.2.2.1, (IntKind.i64.wrap (out.2.2.2.2.2.2 + (List.length e.2.2.2.2.2.2.2.2.2.2.2.2.1 : Int))))))))) m_ e))))
 none)
 (k1 x t4 out)
def zq195 (m : Nat) {β : Type} (k1 : zq18h β) : zq18i β := lp7 (fun r => zq194 r k1) none m
theorem zq196 {β : Type} (i : Nat) (k1) : zq195 (β := β) (i + 1) k1 = zq194 (zq195 i k1) k1 := rfl
def zq197 {β : Type} := hid (zq195 (β := β) fuel)
noncomputable def zq198 : Pb := ⟨250, zq18j, fun _ => zq197, pl (p := zq18j) zq18g [zq193] (g := fun i _ => zq195 i) (by kernel_rfl) rfl (by kernel_rfl) (fun _ _ => rfl) fun _ _ _ _ => by kernel_rfl⟩
def zq199 {β : Type} (k1 : zq18q β) : zq18r β := fun t100 t101 t102 t134 x t4 out c =>
 cond t134
 (zq41 (IntKind.i64.wrap (c.1 - x.2.2.2.1)) (fun (rexactly : t0y) =>
 k1 t100 t101 t102 x t4 (out.1, (out.2.1, (out.2.2.1, (rexactly, out.2.2.2.2))))))
 (k1 t100 t101 t102 x t4 out)
def zq19a {β : Type} := hid (zq199 (β := β))
noncomputable def zq19b : Pb := ⟨231, zq18s, fun _ => zq19a, pe (p := zq18s) zq18g [] 231 (g := fun _ => zq199) (by kernel_rfl) fun _ _ => by kernel_rfl⟩
def zq19c {β : Type} (k1 : zq18t β) : zq18u β := fun t100 t101 t102 x t4 out c =>
 cond (decide (c.2.1 = (2 : Int)))
 (cond (decide (x.2.1 = (2 : Int)))
 (zq19a (fun (t1002 : List t2y) (t1012 : Int) (t1022 : Int) (x2 : zqw) (t42 : zqu) (out2 : zqu) =>
 k1 t1002 t1012 t1022 x2 t42 out2) t100 t101 t102 true x t4 out c)
 (zq19a (fun (t1002 : List t2y) (t1012 : Int) (t1022 : Int) (x2 : zqw) (t42 : zqu) (out2 : zqu) =>
 k1 t1002 t1012 t1022 x2 t42 out2) t100 t101 t102 (decide (x.2.1 = (3 : Int))) x t4 out c))
 (zq19a (fun (t1002 : List t2y) (t1012 : Int) (t1022 : Int) (x2 : zqw) (t42 : zqu) (out2 : zqu) =>
 k1 t1002 t1012 t1022 x2 t42 out2) t100 t101 t102 false x t4 out c)
def zq19d {β : Type} := hid (zq19c (β := β))
noncomputable def zq19e : Pb := ⟨115, zq18v, fun _ => zq19d, pe (p := zq18v) zq18g [zq19b] 115 (g := fun _ => zq19c) (by kernel_rfl) fun _ _ => by kernel_rfl⟩
def zq19f {β : Type} (k1 : zq18w β) : zq18x β := fun t100 t101 t102 t114 x t4 out c =>
 cond t114
 (zq41 (IntKind.i64.wrap (c.1 - x.2.2.2.1)) (fun (rexactly : t0y) =>
 k1 t100 t101 t102 x t4 (out.1, (out.2.1, (rexactly, out.2.2.2))) c))
 (k1 t100 t101 t102 x t4 out c)
def zq19g {β : Type} := hid (zq19f (β := β))
noncomputable def zq19h : Pb := ⟨229, zq18y, fun _ => zq19g, pe (p := zq18y) zq18g [] 229 (g := fun _ => zq19f) (by kernel_rfl) fun _ _ => by kernel_rfl⟩
def zq19i {β : Type} (rec : zq18l β) (k1 : zq18k β) : zq18l β := fun t100 t101 t102 x t4 out =>
 cond (decide (t102 < t101))
 (cond (decide (0 ≤ t102) && decide (t102 < (List.length t100 : Int)))
 (let e : t2y := List.getD t100 (Int.toNat t102) ((0 : Int), ((0 : Int), (0 : Int)));
 cond (decide (e.2.1 = (1 : Int)))
 (zq3x  (fun (rnever : t0y) =>
 zq19g (fun (t1002 : List t2y) (t1012 : Int) (t1022 : Int) (x2 : zqw) (t42 : zqu) (out2 : zqu) (c : t2y) =>
 zq19d (fun (t1003 : List t2y) (t1013 : Int) (t1023 : Int) (x3 : zqw) (t43 : zqu) (out3 : zqu) =>
 rec t1003 t1013 (IntKind.i64.wrap (t1023 + (1 : Int))) x3 t43 out3) t1002 t1012 t1022 x2 t42 out2 c) t100 t101 t102 (decide (out.2.2.1.1 = rnever.1) && (decide (out.2.2.1.2 = rnever.2) && true)) x t4 out e))
 (zq19g (fun (t1002 : List t2y) (t1012 : Int) (t1022 : Int) (x2 : zqw) (t42 : zqu) (out2 : zqu) (c : t2y) =>
 zq19d (fun (t1003 : List t2y) (t1013 : Int) (t1023 : Int) (x3 : zqw) (t43 : zqu) (out3 : zqu) =>
 rec t1003 t1013 (IntKind.i64.wrap (t1023 + (1 : Int))) x3 t43 out3) t1002 t1012 t1022 x2 t42 out2 c) t100 t101 t102 false x t4 out e))
 none)
 (k1 t4 out)
def zq19j (m : Nat) {β : Type} (k1 : zq18k β) : zq18l β := lp6 (fun r => zq19i r k1) none m
theorem zq19k {β : Type} (i : Nat) (k1) : zq19j (β := β) (i + 1) k1 = zq19i (zq19j i k1) k1 := rfl
def zq19l {β : Type} := hid (zq19j (β := β) fuel)
noncomputable def zq19m : Pb := ⟨506, zq18m, fun _ => zq19l, pl (p := zq18m) zq18g [zq19e, zq19h] (g := fun i _ => zq19j i) (by kernel_rfl) rfl (by kernel_rfl) (fun _ _ => rfl) fun _ _ _ _ => by kernel_rfl⟩
def zq19n : zq18f := fun x l k =>
 zq13x x (fun (rCheck : Bool) =>
 cond (!rCheck)
 (k zq1e (8 : Int))
 (zq3x  (fun (rnever : t0y) =>
 zq3x  (fun (rnever2 : t0y) =>
 zq3x  (fun (rnever3 : t0y) =>
 let m_ : List (Int × Bool) := ([] : List (Int × Bool));
 zq197 (fun (x2 : zqw) (t4 : zqu) (out : zqu) =>
 zq19l (fun (t42 : zqu) (out2 : zqu) =>
 k out2 (0 : Int)) x2.2.2.2.2.2.2.2.2.2.2.1 (List.length x2.2.2.2.2.2.2.2.2.2.2.1 : Int) (0 : Int) x2 t4 out) l (List.length l : Int) (0 : Int) x zq1e (x.1, (rnever, (rnever2, (rnever3, ((0 : Int), ((0 : Int), (0 : Int))))))) m_)))))
def zq19o : zq18f := hid zq19n
noncomputable def zq19p : En := ⟨12, .spec (sg [b43y, b57y] [] [(true, [.data zqv]), b27y] [] zq19o), pf zq18g [zq198, zq19m] [.cell 4 59, .tmp 5] Tryz.func12 (by kernel_rfl) fun _ _ => by kernel_rfl⟩
abbrev zq19q := {β : Type} → zqo → (t14y → Bool → Option β) → Option β
def zq19r : zq19q := fun r_ k =>
 zq155 r_ (fun (rConstraints : Bool) (lrConstraints : List t2y) =>
 cond (!rConstraints)
 (k ([] : List t3y) false)
 (zqv1 (IntKind.i64.wrap ((List.length r_.2.2.1 : Int) + (1 : Int))) lrConstraints (fun (rClose : List t3y) (rClose2 : Bool) =>
 k rClose rClose2)))
def zq19s : zq19q := hid zq19r
noncomputable def zq19t : En := ⟨93, .spec (sg [b49y] [] [b77y, b30y] [] zq19s), pf [zqv2, zq156] [] [.tmp 2, .tmp 3] Tryz.func93 (by kernel_rfl) fun _ _ => by kernel_rfl⟩
abbrev zq19u := {β : Type} → zqo → Int → Int → (t0y → Bool → Option β) → Option β
noncomputable def zq19v : List En := [zqj0, zq16q, zqiw, zq16b, zqio, zqis]
abbrev zq19w (β : Type) := t0y → t0y → Option β
abbrev zq19x (β : Type) := Int → Int → t13y → Int → Int → zqo → t0y → t0y → Option β
noncomputable def zq19y : Pc := ⟨56, 0, Q1 122 (Q2 Tryz.f123), ⟨0, [1, 2, 3, 6, 8, 31, 32, 33], [b27y, b27y, b29y, b34y, b37y, (false, [.data (.slice zqd)]), b27y, b27y], [b39y, b41y, b41y]⟩, [(.exit 0, ⟨0, [6, 8], [b29y, b34y], [b41y, b41y]⟩)]⟩
def zq19z {β : Type} (rec : zq19x β) (k1 : zq19w β) : zq19x β := fun host clock t31 t32 t33 r_ t6 out =>
 cond (decide (t33 < t32))
 (cond (decide (0 ≤ t33) && decide (t33 < (List.length t31 : Int)))
 (let e : zqc := List.getD t31 (Int.toNat t33) ((0 : Int), ((0 : Int), ((0 : Int), (0 : Int))));
 cond (decide (e.1 = host))
 (cond (decide (0 ≤ host) && decide (host < (List.length r_.1 : Int)))
 (let e2 : t5y := List.getD r_.1 (Int.toNat host) (([] : List UInt8), (0 : Int));
 zq16p e2 e clock (fun (rFrom : t0y) =>
 zqiv out rFrom (fun (rMeet : t0y) =>
 rec host clock t31 t32 (IntKind.i64.wrap (t33 + (1 : Int))) r_ t6 rMeet)))
 none)
 (rec host clock t31 t32 (IntKind.i64.wrap (t33 + (1 : Int))) r_ t6 out))
 none)
 (k1 t6 out)
def zq1a0 (m : Nat) {β : Type} (k1 : zq19w β) : zq19x β := lp8 (fun r => zq19z r k1) none m
theorem zq1a1 {β : Type} (i : Nat) (k1) : zq1a0 (β := β) (i + 1) k1 = zq19z (zq1a0 i k1) k1 := rfl
def zq1a2 {β : Type} := hid (zq1a0 (β := β) fuel)
noncomputable def zq1a3 : Pb := ⟨122, zq19y, fun _ => zq1a2, pl (p := zq19y) zq19v [] (g := fun i _ => zq1a0 i) (by kernel_rfl) rfl (by kernel_rfl) (fun _ _ => rfl) fun _ _ _ _ => by kernel_rfl⟩
def zq1a4 : zq19u := fun r_ host clock k =>
 zq16a r_ (fun (rValid : Bool) =>
 cond (!rValid)
 (k ((0 : Int), (0 : Int)) false)
 (zqin host (0 : Int) (IntKind.i64.wrap ((List.length r_.1 : Int) - (1 : Int))) (fun (rin : Bool) =>
 cond (!rin)
 (k ((0 : Int), (0 : Int)) false)
 (zqir clock (fun (rinstant : Bool) =>
 cond (!rinstant)
 (k ((0 : Int), (0 : Int)) false)
 (zq1a2 (fun (t6 : t0y) (out : t0y) =>
 zqiz out (fun (rEmpty : Bool) =>
 k out (!rEmpty))) host clock r_.2.1 (List.length r_.2.1 : Int) (0 : Int) r_ ((0 : Int), (0 : Int)) ((0 : Int), (8589934592 : Int))))))))
def zq1a5 : zq19u := hid zq1a4
noncomputable def zq1a6 : En := ⟨123, .spec (sg [b49y, b27y, b27y] [] [b35y, b30y] [] zq1a5), pf zq19v [zq1a3] [.cell 6 57, .tmp 7] Tryz.func123 (by kernel_rfl) fun _ _ => by kernel_rfl⟩
abbrev zq1a7 := {β : Type} → zqm → (Int → Option β) → Option β
noncomputable def zq1a8 : List En := [zqi7, zqkw, zqks, zq174]
abbrev zq1a9 (β : Type) := Int → Option β
abbrev zq1aa (β : Type) := Unit → Option β
abbrev zq1ab (β : Type) := Int → zqm → t26y → Option β
noncomputable def zq1ac : Pc := ⟨58, 0, Q1 58 (Q2 Tryz.f170), ⟨0, [1, 3, 4], [b29y, b45y, b27y], [b40y, .row 9 .str]⟩, [(.ret, ⟨0, [2], [b27y], []⟩), (.exit 0, ⟨0, [], [], []⟩)]⟩
def zq1ad {β : Type} (rec : zq1ab β) (k1 : zq1a9 β) (k2 : zq1aa β) : zq1ab β := fun i_ c l =>
 cond (decide (i_ < (List.length c.2.1 : Int)))
 (cond (decide (0 ≤ i_) && decide (i_ < (List.length c.2.1 : Int)))
 (let e : zqk := List.getD c.2.1 (Int.toNat i_) (([] : List UInt8), ((0 : Int), (([] : List t0y), ((0 : Int), ((0 : Int), false)))));
 let l2 : List t7y := ([e.1] : List t7y);
 cond (decide ((List.length l + List.length l2) * 16 ≤ Q5))
 (let l3 : List t7y := (l ++ l2);
 cond (decide (e.1 = ([110, 111, 98, 111, 100, 121] : List UInt8)))
 (k1 (2 : Int))
 (zq173 l3 i_ (fun (rname : Int) =>
 cond (!decide (rname = (0 : Int)))
 (k1 rname)
 (zqkr e.2.1 (0 : Int) (IntKind.i64.wrap ((List.length c.1 : Int) - (1 : Int))) (fun (rin : Bool) =>
 cond (!rin)
 (k1 (3 : Int))
 (zqi6 e.2.2.1 (fun (rCheck : Int) =>
 let t : Bool := (!decide (rCheck = (0 : Int)));
 cond t
 (k1 (8 : Int))
 (zqkv e.2.2.2.1 (fun (rhours : Bool) =>
 cond (!rhours)
 (k1 (1 : Int))
 (zqkv e.2.2.2.2.1 (fun (rhours2 : Bool) =>
 cond (!rhours2)
 (k1 (1 : Int))
 (let i_2 : Int := (IntKind.i64.wrap (i_ + (1 : Int)));
 rec i_2 c l3))))))))))))
 none)
 none)
 (k2 ())
def zq1ae (m : Nat) {β : Type} (k1 : zq1a9 β) (k2 : zq1aa β) : zq1ab β := lp3 (fun r => zq1ad r k1 k2) none m
theorem zq1af {β : Type} (i : Nat) (k1 k2) : zq1ae (β := β) (i + 1) k1 k2 = zq1ad (zq1ae i k1 k2) k1 k2 := rfl
def zq1ag {β : Type} := hid (zq1ae (β := β) fuel)
noncomputable def zq1ah : Pb := ⟨58, zq1ac, fun _ => zq1ag, pl (p := zq1ac) zq1a8 [] (g := fun i _ => zq1ae i) (by kernel_rfl) rfl (by kernel_rfl) (fun _ _ => rfl) fun _ _ _ _ => by kernel_rfl⟩
def zq1ai : zq1a7 := fun c k =>
 zq1ag (fun (t2 : Int) =>
 k t2) (fun (_ : Unit) =>
 k (0 : Int)) (0 : Int) c ([] : List t7y)
def zq1aj : zq1a7 := hid zq1ai
noncomputable def zq1ak : En := ⟨170, .spec (sg [b47y] [] [b27y] [] zq1aj), pf zq1a8 [zq1ah] [.tmp 2] Tryz.func170 (by kernel_rfl) fun _ _ => by kernel_rfl⟩
abbrev zq1al := {β : Type} → zqm → (Int → Option β) → Option β
noncomputable def zq1am : List En := [zqvv, zqks, zq174]
abbrev zq1an (β : Type) := Int → Option β
abbrev zq1ao (β : Type) := Unit → Option β
abbrev zq1ap (β : Type) := Int → zqm → t26y → Option β
noncomputable def zq1aq : Pc := ⟨78, 0, Q1 58 (Q2 Tryz.f171), ⟨0, [1, 3, 4], [b29y, b45y, b27y], [b40y, .row 9 .str]⟩, [(.ret, ⟨0, [2], [b27y], []⟩), (.exit 0, ⟨0, [], [], []⟩)]⟩
abbrev zq1ar (β : Type) := Int → Option β
abbrev zq1as (β : Type) := Int → zqm → t26y → zq6 → Option β
abbrev zq1at (β : Type) := Int → Int → zqm → t26y → zq6 → Option β
noncomputable def zq1au : Pc := ⟨78, 0, Q1 3322 (Qb zq1aq.c), ⟨0, [1, 3, 4, 5, 7], [b29y, b45y, b27y, b37y, b27y], [b40y, .row 9 .str, b84y]⟩, [(.ret, ⟨0, [2], [b27y], []⟩), (.exit 2, ⟨0, [1, 3, 4, 5], [b29y, b45y, b27y, b37y], [b40y, .row 9 .str, b84y]⟩)]⟩
abbrev zq1av (β : Type) := Int → Option β
abbrev zq1aw (β : Type) := Int → zqm → t26y → Option β
abbrev zq1ax (β : Type) := Int → Int → zqm → t26y → zq6 → Option β
noncomputable def zq1ay : Pc := ⟨78, 0, Q1 3326 (Qb zq1aq.c), ⟨0, [1, 3, 4, 5, 8], [b29y, b45y, b27y, b37y, b27y], [b40y, .row 9 .str, b84y]⟩, [(.ret, ⟨0, [2], [b27y], []⟩), (.exit 4, ⟨0, [1, 3, 4], [b29y, b45y, b27y], [b40y, .row 9 .str]⟩)]⟩
def zq1az {β : Type} (rec : zq1at β) (k1 : zq1ar β) (k2 : zq1as β) : zq1at β := fun i_ k_ c l x =>
 cond (decide (k_ < (List.length x.2.2 : Int)))
 (cond (decide (0 ≤ k_) && decide (k_ < (List.length x.2.2 : Int)))
 (let e : Int := List.getD x.2.2 (Int.toNat k_) (0 : Int);
 zqvu  (fun (rMaxDay : Int) =>
 zqkr e (0 : Int) rMaxDay (fun (rin : Bool) =>
 cond (!rin)
 (k1 (1 : Int))
 (let k_2 : Int := (IntKind.i64.wrap (k_ + (1 : Int)));
 rec i_ k_2 c l x))))
 none)
 (k2 i_ c l x)
def zq1b0 (m : Nat) {β : Type} (k1 : zq1ar β) (k2 : zq1as β) : zq1at β := lp5 (fun r => zq1az r k1 k2) none m
theorem zq1b1 {β : Type} (i : Nat) (k1 k2) : zq1b0 (β := β) (i + 1) k1 k2 = zq1az (zq1b0 i k1 k2) k1 k2 := rfl
def zq1b2 {β : Type} := hid (zq1b0 (β := β) fuel)
noncomputable def zq1b3 : Pb := ⟨3322, zq1au, fun _ => zq1b2, pl (p := zq1au) zq1am [] (g := fun i _ => zq1b0 i) (by kernel_rfl) rfl (by kernel_rfl) (fun _ _ => rfl) fun _ _ _ _ => by kernel_rfl⟩
def zq1b4 {β : Type} (rec : zq1ax β) (k1 : zq1av β) (k2 : zq1aw β) : zq1ax β := fun i_ k_ c l x =>
 cond (decide (k_ < (List.length x.2.2 : Int)))
 (cond (decide (0 ≤ k_) && decide (k_ < (List.length x.2.2 : Int)))
 (let e : Int := List.getD x.2.2 (Int.toNat k_) (0 : Int);
 cond (decide (0 ≤ (IntKind.i64.wrap (k_ - (1 : Int)))) && decide ((IntKind.i64.wrap (k_ - (1 : Int))) < (List.length x.2.2 : Int)))
 (let e2 : Int := List.getD x.2.2 (Int.toNat (IntKind.i64.wrap (k_ - (1 : Int)))) (0 : Int);
 cond (decide (e ≤ e2))
 (k1 (6 : Int))
 (let k_2 : Int := (IntKind.i64.wrap (k_ + (1 : Int)));
 rec i_ k_2 c l x))
 none)
 none)
 (k2 i_ c l)
def zq1b5 (m : Nat) {β : Type} (k1 : zq1av β) (k2 : zq1aw β) : zq1ax β := lp5 (fun r => zq1b4 r k1 k2) none m
theorem zq1b6 {β : Type} (i : Nat) (k1 k2) : zq1b5 (β := β) (i + 1) k1 k2 = zq1b4 (zq1b5 i k1 k2) k1 k2 := rfl
def zq1b7 {β : Type} := hid (zq1b5 (β := β) fuel)
noncomputable def zq1b8 : Pb := ⟨3326, zq1ay, fun _ => zq1b7, pl (p := zq1ay) zq1am [] (g := fun i _ => zq1b5 i) (by kernel_rfl) rfl (by kernel_rfl) (fun _ _ => rfl) fun _ _ _ _ => by kernel_rfl⟩
def zq1b9 {β : Type} (rec : zq1ap β) (k1 : zq1an β) (k2 : zq1ao β) : zq1ap β := fun i_ c l =>
 cond (decide (i_ < (List.length c.2.2.1 : Int)))
 (cond (decide (0 ≤ i_) && decide (i_ < (List.length c.2.2.1 : Int)))
 (let e : zq6 := List.getD c.2.2.1 (Int.toNat i_) (([] : List UInt8), ((0 : Int), ([] : List Int)));
 let l2 : List t7y := ([e.1] : List t7y);
 cond (decide ((List.length l + List.length l2) * 16 ≤ Q5))
 (let l3 : List t7y := (l ++ l2);
 zq173 l3 i_ (fun (rname : Int) =>
 cond (!decide (rname = (0 : Int)))
 (k1 rname)
 (zqkr e.2.1 (0 : Int) (IntKind.i64.wrap ((List.length c.1 : Int) - (1 : Int))) (fun (rin : Bool) =>
 cond (!rin)
 (k1 (3 : Int))
 (cond (decide ((64 : Int) < (List.length e.2.2 : Int)))
 (k1 (5 : Int))
 (zq1b2 (fun (t2 : Int) =>
 k1 t2) (fun (i_2 : Int) (c2 : zqm) (l4 : List t7y) (x : zq6) =>
 zq1b7 (fun (t2 : Int) =>
 k1 t2) (fun (i_3 : Int) (c3 : zqm) (l5 : List t7y) =>
 let i_4 : Int := (IntKind.i64.wrap (i_3 + (1 : Int)));
 rec i_4 c3 l5) i_2 (1 : Int) c2 l4 x) i_ (0 : Int) c l3 e))))))
 none)
 none)
 (k2 ())
def zq1ba (m : Nat) {β : Type} (k1 : zq1an β) (k2 : zq1ao β) : zq1ap β := lp3 (fun r => zq1b9 r k1 k2) none m
theorem zq1bb {β : Type} (i : Nat) (k1 k2) : zq1ba (β := β) (i + 1) k1 k2 = zq1b9 (zq1ba i k1 k2) k1 k2 := rfl
def zq1bc {β : Type} := hid (zq1ba (β := β) fuel)
noncomputable def zq1bd : Pb := ⟨58, zq1aq, fun _ => zq1bc, pl (p := zq1aq) zq1am [zq1b3, zq1b8] (g := fun i _ => zq1ba i) (by kernel_rfl) rfl (by kernel_rfl) (fun _ _ => rfl) fun _ _ _ _ => by kernel_rfl⟩
def zq1be : zq1al := fun c k =>
 zq1bc (fun (t2 : Int) =>
 k t2) (fun (_ : Unit) =>
 k (0 : Int)) (0 : Int) c ([] : List t7y)
def zq1bf : zq1al := hid zq1be
noncomputable def zq1bg : En := ⟨171, .spec (sg [b47y] [] [b27y] [] zq1bf), pf zq1am [zq1bd] [.tmp 2] Tryz.func171 (by kernel_rfl) fun _ _ => by kernel_rfl⟩
abbrev zq1bh := {β : Type} → zqm → (Int → Option β) → Option β
noncomputable def zq1bi : List En := [zqxq, zqwt, zq174]
abbrev zq1bj (β : Type) := Int → Option β
abbrev zq1bk (β : Type) := Unit → Option β
abbrev zq1bl (β : Type) := Int → zqm → t26y → Option β
noncomputable def zq1bm : Pc := ⟨95, 0, Q1 58 (Q2 Tryz.f172), ⟨0, [1, 3, 4], [b29y, b45y, b27y], [b40y, .row 9 .str]⟩, [(.ret, ⟨0, [2], [b27y], []⟩), (.exit 0, ⟨0, [], [], []⟩)]⟩
abbrev zq1bn (β : Type) := Int → Option β
abbrev zq1bo (β : Type) := Int → zqm → t26y → zqe → Option β
abbrev zq1bp (β : Type) := Int → Int → zqm → t26y → zqe → t26y → Option β
noncomputable def zq1bq : Pc := ⟨95, 0, Q1 3322 (Qb zq1bm.c), ⟨0, [1, 3, 4, 5, 7, 8], [b29y, b45y, b27y, b37y, b62y, b27y], [b40y, .row 9 .str, b82y, .row 9 .str]⟩, [(.ret, ⟨0, [2], [b27y], []⟩), (.exit 2, ⟨0, [1, 3, 4, 5], [b29y, b45y, b27y, b37y], [b40y, .row 9 .str, b82y]⟩)]⟩
abbrev zq1br (β : Type) := Int → Option β
abbrev zq1bs (β : Type) := Int → zqm → t26y → Option β
abbrev zq1bt (β : Type) := Int → Int → zqm → t26y → zqe → Option β
noncomputable def zq1bu : Pc := ⟨95, 0, Q1 3326 (Qb zq1bm.c), ⟨0, [1, 3, 4, 5, 11], [b29y, b45y, b27y, b37y, b27y], [b40y, .row 9 .str, b82y]⟩, [(.ret, ⟨0, [2], [b27y], []⟩), (.exit 4, ⟨0, [1, 3, 4], [b29y, b45y, b27y], [b40y, .row 9 .str]⟩)]⟩
def zq1bv {β : Type} (rec : zq1bp β) (k1 : zq1bn β) (k2 : zq1bo β) : zq1bp β := fun i_ k_ c l s m =>
 cond (decide (k_ < (List.length s.2.1 : Int)))
 (cond (decide (0 ≤ k_) && decide (k_ < (List.length s.2.1 : Int)))
 (let e : zqa := List.getD s.2.1 (Int.toNat k_) (([] : List UInt8), ((0 : Int), (((0 : Int), (0 : Int)), ((0 : Int), ((0 : Int), (([] : List Int), (([] : List t0y), ((0 : Int), (0 : Int)))))))));
 let l2 : List t7y := ([e.1] : List t7y);
 cond (decide ((List.length m + List.length l2) * 16 ≤ Q5))
 (let l3 : List t7y := (m ++ l2);
 zq173 l3 k_ (fun (rname : Int) =>
 cond (!decide (rname = (0 : Int)))
 (k1 rname)
 (cond (decide (0 ≤ k_) && decide (k_ < (List.length s.2.1 : Int)))
 (let e2 : zqa := List.getD s.2.1 (Int.toNat k_) (([] : List UInt8), ((0 : Int), (((0 : Int), (0 : Int)), ((0 : Int), ((0 : Int), (([] : List Int), (([] : List t0y), ((0 : Int), (0 : Int)))))))));
 zqws c e2 (fun (rlayer : Int) =>
 cond (!decide (rlayer = (0 : Int)))
 (k1 rlayer)
 (let k_2 : Int := (IntKind.i64.wrap (k_ + (1 : Int)));
 rec i_ k_2 c l s l3)))
 none)))
 none)
 none)
 (k2 i_ c l s)
def zq1bw (m : Nat) {β : Type} (k1 : zq1bn β) (k2 : zq1bo β) : zq1bp β := lp6 (fun r => zq1bv r k1 k2) none m
theorem zq1bx {β : Type} (i : Nat) (k1 k2) : zq1bw (β := β) (i + 1) k1 k2 = zq1bv (zq1bw i k1 k2) k1 k2 := rfl
def zq1by {β : Type} := hid (zq1bw (β := β) fuel)
noncomputable def zq1bz : Pb := ⟨3322, zq1bq, fun _ => zq1by, pl (p := zq1bq) zq1bi [] (g := fun i _ => zq1bw i) (by kernel_rfl) rfl (by kernel_rfl) (fun _ _ => rfl) fun _ _ _ _ => by kernel_rfl⟩
def zq1c0 {β : Type} (rec : zq1bt β) (k1 : zq1br β) (k2 : zq1bs β) : zq1bt β := fun i_ k_ c l s =>
 cond (decide (k_ < (List.length s.2.2 : Int)))
 (cond (decide (0 ≤ k_) && decide (k_ < (List.length s.2.2 : Int)))
 (let e : t8y := List.getD s.2.2 (Int.toNat k_) ((0 : Int), zq12);
 zqxp c e (fun (redit : Int) =>
 cond (!decide (redit = (0 : Int)))
 (k1 redit)
 (let k_2 : Int := (IntKind.i64.wrap (k_ + (1 : Int)));
 rec i_ k_2 c l s)))
 none)
 (k2 i_ c l)
def zq1c1 (m : Nat) {β : Type} (k1 : zq1br β) (k2 : zq1bs β) : zq1bt β := lp5 (fun r => zq1c0 r k1 k2) none m
theorem zq1c2 {β : Type} (i : Nat) (k1 k2) : zq1c1 (β := β) (i + 1) k1 k2 = zq1c0 (zq1c1 i k1 k2) k1 k2 := rfl
def zq1c3 {β : Type} := hid (zq1c1 (β := β) fuel)
noncomputable def zq1c4 : Pb := ⟨3326, zq1bu, fun _ => zq1c3, pl (p := zq1bu) zq1bi [] (g := fun i _ => zq1c1 i) (by kernel_rfl) rfl (by kernel_rfl) (fun _ _ => rfl) fun _ _ _ _ => by kernel_rfl⟩
def zq1c5 {β : Type} (rec : zq1bl β) (k1 : zq1bj β) (k2 : zq1bk β) : zq1bl β := fun i_ c l =>
 cond (decide (i_ < (List.length c.2.2.2 : Int)))
 (cond (decide (0 ≤ i_) && decide (i_ < (List.length c.2.2.2 : Int)))
 (let e : zqe := List.getD c.2.2.2 (Int.toNat i_) (([] : List UInt8), (([] : List zqa), ([] : List t8y)));
 let l2 : List t7y := ([e.1] : List t7y);
 cond (decide ((List.length l + List.length l2) * 16 ≤ Q5))
 (let l3 : List t7y := (l ++ l2);
 zq173 l3 i_ (fun (rname : Int) =>
 cond (!decide (rname = (0 : Int)))
 (k1 rname)
 (cond (decide ((6 : Int) < (List.length e.2.1 : Int)))
 (k1 (5 : Int))
 (cond (decide ((48 : Int) < (List.length e.2.2 : Int)))
 (k1 (5 : Int))
 (zq1by (fun (t2 : Int) =>
 k1 t2) (fun (i_2 : Int) (c2 : zqm) (l4 : List t7y) (s : zqe) =>
 zq1c3 (fun (t2 : Int) =>
 k1 t2) (fun (i_3 : Int) (c3 : zqm) (l5 : List t7y) =>
 let i_4 : Int := (IntKind.i64.wrap (i_3 + (1 : Int)));
 rec i_4 c3 l5) i_2 (0 : Int) c2 l4 s) i_ (0 : Int) c l3 e ([] : List t7y))))))
 none)
 none)
 (k2 ())
def zq1c6 (m : Nat) {β : Type} (k1 : zq1bj β) (k2 : zq1bk β) : zq1bl β := lp3 (fun r => zq1c5 r k1 k2) none m
theorem zq1c7 {β : Type} (i : Nat) (k1 k2) : zq1c6 (β := β) (i + 1) k1 k2 = zq1c5 (zq1c6 i k1 k2) k1 k2 := rfl
def zq1c8 {β : Type} := hid (zq1c6 (β := β) fuel)
noncomputable def zq1c9 : Pb := ⟨58, zq1bm, fun _ => zq1c8, pl (p := zq1bm) zq1bi [zq1bz, zq1c4] (g := fun i _ => zq1c6 i) (by kernel_rfl) rfl (by kernel_rfl) (fun _ _ => rfl) fun _ _ _ _ => by kernel_rfl⟩
def zq1ca : zq1bh := fun c k =>
 zq1c8 (fun (t2 : Int) =>
 k t2) (fun (_ : Unit) =>
 k (0 : Int)) (0 : Int) c ([] : List t7y)
def zq1cb : zq1bh := hid zq1ca
noncomputable def zq1cc : En := ⟨172, .spec (sg [b47y] [] [b27y] [] zq1cb), pf zq1bi [zq1c9] [.tmp 2] Tryz.func172 (by kernel_rfl) fun _ _ => by kernel_rfl⟩
abbrev zq1cd := {β : Type} → Int → Int → Int → Int → (Int → Int → Option β) → Option β
noncomputable def zq1ce : List En := [zq17h, zqyn, zql4]
abbrev zq1cf (β : Type) := Int → Int → Int → Int → Int → Option β
abbrev zq1cg (β : Type) := Int → Int → Int → Int → Int → Int → Option β
noncomputable def zq1ch : Pc := ⟨63, 0, Q1 124 (Q2 Tryz.f203), ⟨0, [0, 1, 2, 3, 10, 12], [b27y, b27y, b27y, b27y, b27y, b27y], []⟩, [(.exit 0, ⟨0, [0, 1, 2, 10, 12], [b27y, b27y, b27y, b27y, b27y], []⟩)]⟩
abbrev zq1ci (β : Type) := Int → Option β
abbrev zq1cj (β : Type) := Int → Int → Int → Int → Option β
noncomputable def zq1ck : Pc := ⟨63, 0, Q1 508 (Q2 Tryz.f203), ⟨0, [0, 1, 10, 12], [b27y, b27y, b27y, b27y], []⟩, [(.exit 2, ⟨0, [12], [b27y], []⟩)]⟩
def zq1cl {β : Type} (rec : zq1cg β) (k1 : zq1cf β) : zq1cg β := fun y month week weekday first day =>
 zql3 day (fun (rWeekday : Int) =>
 cond (!decide (rWeekday = weekday))
 (let day2 : Int := (IntKind.i64.wrap (day + (1 : Int)));
 rec y month week weekday first day2)
 (k1 y month week first day))
def zq1cm (m : Nat) {β : Type} (k1 : zq1cf β) : zq1cg β := lp6 (fun r => zq1cl r k1) none m
theorem zq1cn {β : Type} (i : Nat) (k1) : zq1cm (β := β) (i + 1) k1 = zq1cl (zq1cm i k1) k1 := rfl
def zq1co {β : Type} := hid (zq1cm (β := β) fuel)
noncomputable def zq1cp : Pb := ⟨124, zq1ch, fun _ => zq1co, pl (p := zq1ch) zq1ce [] (g := fun i _ => zq1cm i) (by kernel_rfl) rfl (by kernel_rfl) (fun _ _ => rfl) fun _ _ _ _ => by kernel_rfl⟩
def zq1cq {β : Type} (rec : zq1cj β) (k1 : zq1ci β) : zq1cj β := fun y month first day =>
 zqym y month (fun (rDays : Int) =>
 cond (decide ((IntKind.i64.wrap (day + (7 : Int))) < (IntKind.i64.wrap (first + rDays))))
 (let day2 : Int := (IntKind.i64.wrap (day + (7 : Int)));
 rec y month first day2)
 (k1 day))
def zq1cr (m : Nat) {β : Type} (k1 : zq1ci β) : zq1cj β := lp4 (fun r => zq1cq r k1) none m
theorem zq1cs {β : Type} (i : Nat) (k1) : zq1cr (β := β) (i + 1) k1 = zq1cq (zq1cr i k1) k1 := rfl
def zq1ct {β : Type} := hid (zq1cr (β := β) fuel)
noncomputable def zq1cu : Pb := ⟨508, zq1ck, fun _ => zq1ct, pl (p := zq1ck) zq1ce [] (g := fun i _ => zq1cr i) (by kernel_rfl) rfl (by kernel_rfl) (fun _ _ => rfl) fun _ _ _ _ => by kernel_rfl⟩
def zq1cv : zq1cd := fun y month week weekday k =>
 zq17g (y, (month, (1 : Int))) (fun (rDay : Int) (rDay2 : Int) =>
 cond (!decide (rDay2 = (0 : Int)))
 (k (0 : Int) (1 : Int))
 (cond (decide (week < (1 : Int)))
 (k (0 : Int) (1 : Int))
 (cond (decide ((5 : Int) < week))
 (k (0 : Int) (1 : Int))
 (cond (decide (weekday < (0 : Int)))
 (k (0 : Int) (1 : Int))
 (cond (decide ((6 : Int) < weekday))
 (k (0 : Int) (1 : Int))
 (zq1co (fun (y2 : Int) (month2 : Int) (week2 : Int) (first : Int) (day : Int) =>
 cond (decide (week2 < (5 : Int)))
 (let t : Int := (IntKind.i64.wrap (day + (IntKind.i64.wrap ((7 : Int) * (IntKind.i64.wrap (week2 - (1 : Int)))))));
 k t (0 : Int))
 (zq1ct (fun (day2 : Int) =>
 k day2 (0 : Int)) y2 month2 first day)) y month week weekday rDay rDay))))))
def zq1cw : zq1cd := hid zq1cv
noncomputable def zq1cx : En := ⟨203, .spec (sg [b27y, b27y, b27y, b27y] [] [b27y, b27y] [] zq1cw), pf zq1ce [zq1cp, zq1cu] [.tmp 8, .tmp 9] Tryz.func203 (by kernel_rfl) fun _ _ => by kernel_rfl⟩
abbrev zq1cy := {β : Type} → t10y → (Bool → Option β) → Option β
def zq1cz : zq1cy := fun s k =>
 zq17u s (fun (rRange : Int) =>
 let t : Bool := (decide ((0 : Int) ≤ rRange));
 k t)
def zq1d0 : zq1cy := hid zq1cz
noncomputable def zq1d1 : En := ⟨94, .spec (sg [b31y, (false, [.fn 95 []])] [] [b30y] [] zq1d0), pf [zq17v] [] [.tmp 4] Tryz.func94 (by kernel_rfl) fun _ _ => by kernel_rfl⟩
abbrev zq1d2 := {β : Type} → t9y → Int → (Int → Int → Option β) → Option β
noncomputable def zq1d3 : List En := [zqj8]
abbrev zq1d4 (β : Type) := Int → Int → Option β
abbrev zq1d5 (β : Type) := Int → Option β
abbrev zq1d6 (β : Type) := t9y → Int → Int → Int → Option β
noncomputable def zq1d7 : Pc := ⟨19, 1, Q1 26 (Q2 Tryz.f176), ⟨1, [0, 1, 7, 8], [b33y, (false, [.fn 157 [0]]), b27y, b27y], [b71y]⟩, [(.ret, ⟨1, [4], [b27y], [b71y]⟩), (.exit 0, ⟨1, [], [], [b71y]⟩)]⟩
def zq1d8 {β : Type} (rec : zq1d6 β) (k1 : zq1d4 β) (k2 : zq1d5 β) : zq1d6 β := fun s t7 t8 b0_ =>
 cond (decide (t8 < t7))
 (cond (decide (0 ≤ t8) && decide (t8 < (List.length s : Int)))
 (let e : t2y := List.getD s (Int.toNat t8) ((0 : Int), ((0 : Int), (0 : Int)));
 zqj7 e b0_ (fun (rValid1 : Bool) (mrValid1 : Int) =>
 cond rValid1
 (k1 t8 mrValid1)
 (rec s t7 (IntKind.i64.wrap (t8 + (1 : Int))) mrValid1)))
 none)
 (k2 b0_)
def zq1d9 (m : Nat) {β : Type} (k1 : zq1d4 β) (k2 : zq1d5 β) : zq1d6 β := lp4 (fun r => zq1d8 r k1 k2) none m
theorem zq1da {β : Type} (i : Nat) (k1 k2) : zq1d9 (β := β) (i + 1) k1 k2 = zq1d8 (zq1d9 i k1 k2) k1 k2 := rfl
def zq1db {β : Type} := hid (zq1d9 (β := β) fuel)
noncomputable def zq1dc : Pb := ⟨26, zq1d7, fun _ => zq1db, pl (p := zq1d7) zq1d3 [] (g := fun i _ => zq1d9 i) (by kernel_rfl) rfl (by kernel_rfl) (fun _ _ => rfl) fun _ _ _ _ => by kernel_rfl⟩
def zq1dd : zq1d2 := fun s b0_ k =>
 zq1db (fun (t4 : Int) (b0_2 : Int) =>
 k t4 b0_2) (fun (b0_2 : Int) =>
 k (-1 : Int) b0_2) s (List.length s : Int) (0 : Int) b0_
def zq1de : zq1d2 := hid zq1dd
noncomputable def zq1df : En := ⟨176, .spec (sg [b33y, (false, [.fn 157 [0]])] [b71y] [b27y] [b71y] zq1de), pf zq1d3 [zq1dc] [.tmp 4] Tryz.func176 (by kernel_rfl) fun _ _ => by kernel_rfl⟩
abbrev zq1dg := {β : Type} → zqo → (Bool → Option β) → Option β
def zq1dh : zq1dg := fun r_ k =>
 zq19s r_ (fun (rclosed : List t3y) (rclosed2 : Bool) =>
 k rclosed2)
def zq1di : zq1dg := hid zq1dh
noncomputable def zq1dj : En := ⟨52, .spec (sg [b49y] [] [b30y] [] zq1di), pf [zq19t] [] [.tmp 2] Tryz.func52 (by kernel_rfl) fun _ _ => by kernel_rfl⟩
abbrev zq1dk := {β : Type} → zqo → Int → Int → (t0y → Bool → Option β) → Option β
def zq1dl : zq1dk := fun r_ a b k =>
 zq19s r_ (fun (rclosed : List t3y) (rclosed2 : Bool) =>
 cond (!rclosed2)
 (k ((0 : Int), (0 : Int)) false)
 (zq56 a (0 : Int) (IntKind.i64.wrap ((List.length r_.2.2.1 : Int) - (1 : Int))) (fun (rIn : Bool) =>
 cond (!rIn)
 (k ((0 : Int), (0 : Int)) false)
 (zq56 b (0 : Int) (IntKind.i64.wrap ((List.length r_.2.2.1 : Int) - (1 : Int))) (fun (rIn2 : Bool) =>
 cond (!rIn2)
 (k ((0 : Int), (0 : Int)) false)
 (cond (decide (0 ≤ (IntKind.i64.wrap (b + (1 : Int)))) && decide ((IntKind.i64.wrap (b + (1 : Int))) < (List.length rclosed : Int)))
 (let e : List Int := List.getD rclosed (Int.toNat (IntKind.i64.wrap (b + (1 : Int)))) ([] : List Int);
 cond (decide (0 ≤ (IntKind.i64.wrap (a + (1 : Int)))) && decide ((IntKind.i64.wrap (a + (1 : Int))) < (List.length e : Int)))
 (let e2 : Int := List.getD e (Int.toNat (IntKind.i64.wrap (a + (1 : Int)))) (0 : Int);
 cond (decide (0 ≤ (IntKind.i64.wrap (a + (1 : Int)))) && decide ((IntKind.i64.wrap (a + (1 : Int))) < (List.length rclosed : Int)))
 (let e3 : List Int := List.getD rclosed (Int.toNat (IntKind.i64.wrap (a + (1 : Int)))) ([] : List Int);
 cond (decide (0 ≤ (IntKind.i64.wrap (b + (1 : Int)))) && decide ((IntKind.i64.wrap (b + (1 : Int))) < (List.length e3 : Int)))
 (let e4 : Int := List.getD e3 (Int.toNat (IntKind.i64.wrap (b + (1 : Int)))) (0 : Int);
 k ((IntKind.i64.wrap (0 - e2)), e4) true)
 none)
 none)
 none)
 none))))))
def zq1dm : zq1dk := hid zq1dl
noncomputable def zq1dn : En := ⟨53, .spec (sg [b49y, b27y, b27y] [] [b35y, b30y] [] zq1dm), pf [zq57, zq19t] [] [.cell 6 57, .tmp 7] Tryz.func53 (by kernel_rfl) fun _ _ => by kernel_rfl⟩
abbrev zq1do := {β : Type} → t10y → (Int → Option β) → Option β
def zq1dp : zq1do := fun l k =>
 cond (decide ((256 : Int) < (List.length l : Int)))
 (k (5 : Int))
 (zq1d0 l (fun (rRange : Bool) =>
 cond rRange
 (k (8 : Int))
 (k (0 : Int))))
def zq1dq : zq1do := hid zq1dp
noncomputable def zq1dr : En := ⟨54, .spec (sg [b31y] [] [b27y] [] zq1dq), pf [zq1d1] [] [.tmp 2] Tryz.func54 (by kernel_rfl) fun _ _ => by kernel_rfl⟩
abbrev zq1ds := {β : Type} → zqo → (Bool → t9y → Option β) → Option β
noncomputable def zq1dt : List En := [zq16b, zq1a6, zq16m]
abbrev zq1du (β : Type) := Bool → t9y → Option β
abbrev zq1dv (β : Type) := zqo → t9y → Option β
abbrev zq1dw (β : Type) := t11y → Int → Int → zqo → t9y → Option β
noncomputable def zq1dx : Pc := ⟨106, 0, Q1 122 (Q2 Tryz.f111), ⟨0, [1, 4, 18, 19, 20], [b29y, b45y, b81y, b27y, b27y], [b39y, .row 222 (.prod (.int .i64) (.prod (.int .i64) (.int .i64)))]⟩, [(.ret, ⟨0, [2, 3], [b50y, b30y], [.row 222 (.prod (.int .i64) (.prod (.int .i64) (.int .i64)))]⟩), (.exit 0, ⟨0, [1, 4], [b29y, b45y], [b39y, .row 222 (.prod (.int .i64) (.prod (.int .i64) (.int .i64)))]⟩)]⟩
abbrev zq1dy (β : Type) := zqo → t9y → Option β
abbrev zq1dz (β : Type) := t11y → Int → Int → zqo → t9y → Option β
noncomputable def zq1e0 : Pc := ⟨106, 0, Q1 250 (Q2 Tryz.f111), ⟨0, [1, 4, 52, 53, 54], [b29y, b45y, b81y, b27y, b27y], [b39y, .row 222 (.prod (.int .i64) (.prod (.int .i64) (.int .i64)))]⟩, [(.exit 2, ⟨0, [1, 4], [b29y, b45y], [b39y, .row 222 (.prod (.int .i64) (.prod (.int .i64) (.int .i64)))]⟩)]⟩
abbrev zq1e1 (β : Type) := t9y → Option β
abbrev zq1e2 (β : Type) := t9y → Int → Int → t9y → Option β
noncomputable def zq1e3 : Pc := ⟨106, 0, Q1 506 (Q2 Tryz.f111), ⟨0, [4, 85, 86, 87], [b50y, b33y, b27y, b27y], [.row 222 (.prod (.int .i64) (.prod (.int .i64) (.int .i64)))]⟩, [(.exit 6, ⟨0, [4], [b50y], [.row 222 (.prod (.int .i64) (.prod (.int .i64) (.int .i64)))]⟩)]⟩
abbrev zq1e4 (β : Type) := t11y → Int → Int → zqo → t9y → Option β
abbrev zq1e5 (β : Type) := Int → Int → t11y → Int → Int → zqo → t9y → zq8 → Option β
noncomputable def zq1e6 : Pc := ⟨106, 0, Q1 230 (Qb zq1e0.c), ⟨0, [1, 4, 9, 10, 11, 52, 53, 54], [b29y, b45y, b27y, b37y, b27y, b81y, b27y, b27y], [b39y, .row 222 (.prod (.int .i64) (.prod (.int .i64) (.int .i64))), b86y]⟩, [(.exit 4, ⟨0, [1, 4, 52, 53, 54], [b29y, b45y, b81y, b27y, b27y], [b39y, .row 222 (.prod (.int .i64) (.prod (.int .i64) (.int .i64)))]⟩)]⟩
def zq1e7 {β : Type} (rec : zq1dw β) (k1 : zq1du β) (k2 : zq1dv β) : zq1dw β := fun t18 t19 t20 r_ out =>
 cond (decide (t20 < t19))
 (cond (decide (0 ≤ t20) && decide (t20 < (List.length t18 : Int)))
 (let e : zq8 := List.getD t18 (Int.toNat t20) ((0 : Int), ((0 : Int), ([] : List UInt8)));
 zq1a5 r_ e.1 e.2.1 (fun (rWhen : t0y) (rWhen2 : Bool) =>
 cond (!rWhen2)
 (k1 false ([] : List t2y))
 (let l : List t2y := ([((0 : Int), ((IntKind.i64.wrap (t20 + (1 : Int))), rWhen.2)), ((IntKind.i64.wrap (t20 + (1 : Int))), ((0 : Int), (IntKind.i64.wrap (0 - rWhen.1))))] : List t2y);
 cond (decide ((List.length out + List.length l) * 24 ≤ Q5))
 (let l2 : List t2y := (out ++ l);
 rec t18 t19 (IntKind.i64.wrap (t20 + (1 : Int))) r_ l2)
 none)))
 none)
 (k2 r_ out)
def zq1e8 (m : Nat) {β : Type} (k1 : zq1du β) (k2 : zq1dv β) : zq1dw β := lp5 (fun r => zq1e7 r k1 k2) none m
theorem zq1e9 {β : Type} (i : Nat) (k1 k2) : zq1e8 (β := β) (i + 1) k1 k2 = zq1e7 (zq1e8 i k1 k2) k1 k2 := rfl
def zq1ea {β : Type} := hid (zq1e8 (β := β) fuel)
noncomputable def zq1eb : Pb := ⟨122, zq1dx, fun _ => zq1ea, pl (p := zq1dx) zq1dt [] (g := fun i _ => zq1e8 i) (by kernel_rfl) rfl (by kernel_rfl) (fun _ _ => rfl) fun _ _ _ _ => by kernel_rfl⟩
def zq1ec {β : Type} (rec : zq1e5 β) (k1 : zq1e4 β) : zq1e5 β := fun i_ j t52 t53 t54 r_ out a =>
 cond (decide (j < (List.length r_.2.2.1 : Int)))
 (cond (decide (0 ≤ j) && decide (j < (List.length r_.2.2.1 : Int)))
 (let e : zq8 := List.getD r_.2.2.1 (Int.toNat j) ((0 : Int), ((0 : Int), ([] : List UInt8)));
 cond (decide (e.1 = a.1))
 (zq16l r_ i_ j (fun (lrpair : List t2y) =>
 cond (decide ((List.length out + List.length lrpair) * 24 ≤ Q5))
 (let l : List t2y := (out ++ lrpair);
 let j2 : Int := (IntKind.i64.wrap (j + (1 : Int)));
 rec i_ j2 t52 t53 t54 r_ l a)
 none))
 (let j2 : Int := (IntKind.i64.wrap (j + (1 : Int)));
 rec i_ j2 t52 t53 t54 r_ out a))
 none)
 (k1 t52 t53 t54 r_ out)
def zq1ed (m : Nat) {β : Type} (k1 : zq1e4 β) : zq1e5 β := lp8 (fun r => zq1ec r k1) none m
theorem zq1ee {β : Type} (i : Nat) (k1) : zq1ed (β := β) (i + 1) k1 = zq1ec (zq1ed i k1) k1 := rfl
def zq1ef {β : Type} := hid (zq1ed (β := β) fuel)
noncomputable def zq1eg : Pb := ⟨230, zq1e6, fun _ => zq1ef, pl (p := zq1e6) zq1dt [] (g := fun i _ => zq1ed i) (by kernel_rfl) rfl (by kernel_rfl) (fun _ _ => rfl) fun _ _ _ _ => by kernel_rfl⟩
def zq1eh {β : Type} (rec : zq1dz β) (k1 : zq1dy β) : zq1dz β := fun t52 t53 t54 r_ out =>
 cond (decide (t54 < t53))
 (cond (decide (0 ≤ t54) && decide (t54 < (List.length t52 : Int)))
 (let e : zq8 := List.getD t52 (Int.toNat t54) ((0 : Int), ((0 : Int), ([] : List UInt8)));
 let j : Int := (IntKind.i64.wrap (t54 + (1 : Int)));
 zq1ef (fun (t522 : List zq8) (t532 : Int) (t542 : Int) (r_2 : zqo) (out2 : List t2y) =>
 rec t522 t532 (IntKind.i64.wrap (t542 + (1 : Int))) r_2 out2) t54 j t52 t53 t54 r_ out e)
 none)
 (k1 r_ out)
def zq1ei (m : Nat) {β : Type} (k1 : zq1dy β) : zq1dz β := lp5 (fun r => zq1eh r k1) none m
theorem zq1ej {β : Type} (i : Nat) (k1) : zq1ei (β := β) (i + 1) k1 = zq1eh (zq1ei i k1) k1 := rfl
def zq1ek {β : Type} := hid (zq1ei (β := β) fuel)
noncomputable def zq1el : Pb := ⟨250, zq1e0, fun _ => zq1ek, pl (p := zq1e0) zq1dt [zq1eg] (g := fun i _ => zq1ei i) (by kernel_rfl) rfl (by kernel_rfl) (fun _ _ => rfl) fun _ _ _ _ => by kernel_rfl⟩
def zq1em {β : Type} (rec : zq1e2 β) (k1 : zq1e1 β) : zq1e2 β := fun t85 t86 t87 out =>
 cond (decide (t87 < t86))
 (cond (decide (0 ≤ t87) && decide (t87 < (List.length t85 : Int)))
 (let e : t2y := List.getD t85 (Int.toNat t87) ((0 : Int), ((0 : Int), (0 : Int)));
 let l : List t2y := ([((IntKind.i64.wrap (e.2.1 + (1 : Int))), ((IntKind.i64.wrap (e.1 + (1 : Int))), (IntKind.i64.wrap (0 - e.2.2))))] : List t2y);
 cond (decide ((List.length out + List.length l) * 24 ≤ Q5))
 (let l2 : List t2y := (out ++ l);
 rec t85 t86 (IntKind.i64.wrap (t87 + (1 : Int))) l2)
 none)
 none)
 (k1 out)
def zq1en (m : Nat) {β : Type} (k1 : zq1e1 β) : zq1e2 β := lp4 (fun r => zq1em r k1) none m
theorem zq1eo {β : Type} (i : Nat) (k1) : zq1en (β := β) (i + 1) k1 = zq1em (zq1en i k1) k1 := rfl
def zq1ep {β : Type} := hid (zq1en (β := β) fuel)
noncomputable def zq1eq : Pb := ⟨506, zq1e3, fun _ => zq1ep, pl (p := zq1e3) zq1dt [] (g := fun i _ => zq1en i) (by kernel_rfl) rfl (by kernel_rfl) (fun _ _ => rfl) fun _ _ _ _ => by kernel_rfl⟩
def zq1er : zq1ds := fun r_ k =>
 zq16a r_ (fun (rValid : Bool) =>
 cond (!rValid)
 (k false ([] : List t2y))
 (zq1ea (fun (t3 : Bool) (t2 : List t2y) =>
 k t3 t2) (fun (r_2 : zqo) (out : List t2y) =>
 zq1ek (fun (r_3 : zqo) (out2 : List t2y) =>
 zq1ep (fun (out3 : List t2y) =>
 k true out3) r_3.2.2.2 (List.length r_3.2.2.2 : Int) (0 : Int) out2) r_2.2.2.1 (List.length r_2.2.2.1 : Int) (0 : Int) r_2 out) r_.2.2.1 (List.length r_.2.2.1 : Int) (0 : Int) r_ ([] : List t2y)))
def zq1es : zq1ds := hid zq1er
noncomputable def zq1et : En := ⟨111, .spec (sg [b49y] [] [b50y, b30y] [.row 222 (.prod (.int .i64) (.prod (.int .i64) (.int .i64)))] zq1es), pf zq1dt [zq1eb, zq1el, zq1eq] [.tmp 2, .tmp 3] Tryz.func111 (by kernel_rfl) fun _ _ => by kernel_rfl⟩
abbrev zq1eu := {β : Type} → (List zqg) → (t10y → Option β) → Option β
noncomputable def zq1ev : List En := [zq1cx]
abbrev zq1ew (β : Type) := t10y → Option β
abbrev zq1ex (β : Type) := (List zqg) → Int → t10y → Option β
noncomputable def zq1ey : Pc := ⟨98, 0, Q1 58 (Q2 Tryz.f201), ⟨0, [0, 3, 4], [b73y, b50y, b27y], [.row 285 (.prod (.int .i64) (.int .i64))]⟩, [(.exit 0, ⟨0, [3], [b50y], [.row 285 (.prod (.int .i64) (.int .i64))]⟩)]⟩
abbrev zq1ez (β : Type) := (List zqg) → Int → t10y → Option β
abbrev zq1f0 (β : Type) := (List zqg) → Int → Int → t10y → Option β
noncomputable def zq1f1 : Pc := ⟨98, 0, Q1 50 (Qb zq1ey.c), ⟨0, [0, 3, 4, 5], [b73y, b50y, b27y, b27y], [.row 285 (.prod (.int .i64) (.int .i64))]⟩, [(.exit 2, ⟨0, [0, 3, 4], [b73y, b50y, b27y], [.row 285 (.prod (.int .i64) (.int .i64))]⟩)]⟩
abbrev zq1f2 (β : Type) := (List zqg) → Int → Int → Int → t10y → t0y → Option β
abbrev zq1f3 (β : Type) := (List zqg) → Int → Int → Int → t10y → t0y → Option β
noncomputable def zq1f4 : Pc := ⟨98, 0, Q1 412 (Qb zq1f1.c), ⟨0, [0, 3, 4, 5, 8, 9], [b73y, b50y, b27y, b27y, b34y, b27y], [.row 285 (.prod (.int .i64) (.int .i64)), .cells 285 [.data (.prod (.int .i64) (.int .i64))]]⟩, [(.exit 4, ⟨0, [0, 3, 4, 5, 8, 9], [b73y, b50y, b27y, b27y, b34y, b27y], [.row 285 (.prod (.int .i64) (.int .i64)), .cells 285 [.data (.prod (.int .i64) (.int .i64))]]⟩)]⟩
def zq1f5 {β : Type} (rec : zq1f3 β) (k1 : zq1f2 β) : zq1f3 β := fun l i_ y k_ out x =>
 cond (decide ((0 : Int) < k_))
 (cond (decide (0 ≤ (IntKind.i64.wrap (k_ - (1 : Int)))) && decide ((IntKind.i64.wrap (k_ - (1 : Int))) < (List.length out : Int)))
 (cond (decide (x.1 < ((List.getD out (Int.toNat (IntKind.i64.wrap (k_ - (1 : Int)))) ((0 : Int), (0 : Int))).1)))
 (let k_2 : Int := (IntKind.i64.wrap (k_ - (1 : Int)));
 rec l i_ y k_2 out x)
 (k1 l i_ y k_ out x))
 none)
 (k1 l i_ y k_ out x)
def zq1f6 (m : Nat) {β : Type} (k1 : zq1f2 β) : zq1f3 β := lp6 (fun r => zq1f5 r k1) none m
theorem zq1f7 {β : Type} (i : Nat) (k1) : zq1f6 (β := β) (i + 1) k1 = zq1f5 (zq1f6 i k1) k1 := rfl
def zq1f8 {β : Type} := hid (zq1f6 (β := β) fuel)
noncomputable def zq1f9 : Pb := ⟨412, zq1f4, fun _ => zq1f8, pl (p := zq1f4) zq1ev [] (g := fun i _ => zq1f6 i) (by kernel_rfl) rfl (by kernel_rfl) (fun _ _ => rfl) fun _ _ _ _ => by kernel_rfl⟩
def zq1fa {β : Type} (rec : zq1f0 β) (k1 : zq1ez β) : zq1f0 β := fun l i_ y out =>
 cond (decide (0 ≤ i_) && decide (i_ < (List.length l : Int)))
 (let e : zqg := List.getD l (Int.toNat i_) ((0 : Int), ((0 : Int), ((0 : Int), zq12)));
 cond (decide (y ≤ e.2.1))
 (cond (decide (0 ≤ i_) && decide (i_ < (List.length l : Int)))
 (let e2 : zqg := List.getD l (Int.toNat i_) ((0 : Int), ((0 : Int), ((0 : Int), zq12)));
 cond (decide (0 ≤ i_) && decide (i_ < (List.length l : Int)))
 (let e3 : zqg := List.getD l (Int.toNat i_) ((0 : Int), ((0 : Int), ((0 : Int), zq12)));
 cond (decide (0 ≤ i_) && decide (i_ < (List.length l : Int)))
 (let e4 : zqg := List.getD l (Int.toNat i_) ((0 : Int), ((0 : Int), ((0 : Int), zq12)));
 zq1cw y e2.2.2.1 e3.2.2.2.1 e4.2.2.2.2.1 (fun (rNth : Int) (rNth2 : Int) =>
 cond (decide (0 ≤ i_) && decide (i_ < (List.length l : Int)))
 (let e5 : zqg := List.getD l (Int.toNat i_) ((0 : Int), ((0 : Int), ((0 : Int), zq12)));
 cond (decide (0 ≤ i_) && decide (i_ < (List.length l : Int)))
 (let e6 : zqg := List.getD l (Int.toNat i_) ((0 : Int), ((0 : Int), ((0 : Int), zq12)));
 zq1f8 (fun (l2 : List zqg) (i_2 : Int) (y2 : Int) (k_ : Int) (out2 : List t0y) (x : t0y) =>
 let l3 : List t0y := ([x] : List t0y);
 cond (decide ((List.length out2 + List.length l3) * 16 ≤ Q5))
 (let l4 : List t0y := (out2 ++ l3);
 cond (decide (0 ≤ (IntKind.i64.wrap (k_ + (1 : Int)))) && (decide ((IntKind.i64.wrap (k_ + (1 : Int))) ≤ (List.length l4 : Int)) && decide ((List.length l4 : Int) ≤ (List.length l4 : Int))))
 (cond (decide (0 ≤ k_) && (decide (k_ ≤ (List.length l4 : Int)) && decide ((List.length l4 : Int) ≤ (List.length l4 : Int))))
 (let l5 : List t0y := (List.take (Int.toNat (IntKind.i64.wrap (k_ + (1 : Int)))) l4 ++ (List.take ((List.length l4) - (Int.toNat (IntKind.i64.wrap (k_ + (1 : Int))))) (List.drop (Int.toNat k_) (List.take (List.length l4) l4)) ++ List.drop ((Int.toNat (IntKind.i64.wrap (k_ + (1 : Int)))) + (Nat.min (List.length (List.drop (Int.toNat k_) (List.take (List.length l4) l4))) ((List.length l4) - (Int.toNat (IntKind.i64.wrap (k_ + (1 : Int))))))) l4));
 cond (decide (0 ≤ k_) && decide (k_ < (List.length l5 : Int)))
 (let l6 : List t0y := (List.set l5 (Int.toNat k_) x);
 let y3 : Int := (IntKind.i64.wrap (y2 + (1 : Int)));
 rec l2 i_2 y3 l6)
 none)
 none)
 none)
 none) l i_ y (List.length out : Int) out ((IntKind.i64.wrap ((IntKind.i64.wrap (rNth * (86400 : Int))) + e5.2.2.2.2.2.1)), e6.2.2.2.2.2.2))
 none)
 none))
 none)
 none)
 none)
 (k1 l i_ out))
 none
def zq1fb (m : Nat) {β : Type} (k1 : zq1ez β) : zq1f0 β := lp4 (fun r => zq1fa r k1) none m
theorem zq1fc {β : Type} (i : Nat) (k1) : zq1fb (β := β) (i + 1) k1 = zq1fa (zq1fb i k1) k1 := rfl
def zq1fd {β : Type} := hid (zq1fb (β := β) fuel)
noncomputable def zq1fe : Pb := ⟨50, zq1f1, fun _ => zq1fd, pl (p := zq1f1) zq1ev [zq1f9] (g := fun i _ => zq1fb i) (by kernel_rfl) rfl (by kernel_rfl) (fun _ _ => rfl) fun _ _ _ _ => by kernel_rfl⟩
def zq1ff {β : Type} (rec : zq1ex β) (k1 : zq1ew β) : zq1ex β := fun l i_ out =>
 cond (decide (i_ < (List.length l : Int)))
 (cond (decide (0 ≤ i_) && decide (i_ < (List.length l : Int)))
 (let e : zqg := List.getD l (Int.toNat i_) ((0 : Int), ((0 : Int), ((0 : Int), zq12)));
 zq1fd (fun (l2 : List zqg) (i_2 : Int) (out2 : List t0y) =>
 let i_3 : Int := (IntKind.i64.wrap (i_2 + (1 : Int)));
 rec l2 i_3 out2) l i_ e.1 out)
 none)
 (k1 out)
def zq1fg (m : Nat) {β : Type} (k1 : zq1ew β) : zq1ex β := lp3 (fun r => zq1ff r k1) none m
theorem zq1fh {β : Type} (i : Nat) (k1) : zq1fg (β := β) (i + 1) k1 = zq1ff (zq1fg i k1) k1 := rfl
def zq1fi {β : Type} := hid (zq1fg (β := β) fuel)
noncomputable def zq1fj : Pb := ⟨58, zq1ey, fun _ => zq1fi, pl (p := zq1ey) zq1ev [zq1fe] (g := fun i _ => zq1fg i) (by kernel_rfl) rfl (by kernel_rfl) (fun _ _ => rfl) fun _ _ _ _ => by kernel_rfl⟩
def zq1fk : zq1eu := fun l k =>
 zq1fi (fun (out : List t0y) =>
 k out) l (0 : Int) ([] : List t0y)
def zq1fl : zq1eu := hid zq1fk
noncomputable def zq1fm : En := ⟨201, .spec (sg [b73y] [] [b50y] [.row 285 (.prod (.int .i64) (.int .i64))] zq1fl), pf zq1ev [zq1fj] [.tmp 2] Tryz.func201 (by kernel_rfl) fun _ _ => by kernel_rfl⟩
abbrev zq1fn := {β : Type} → t9y → Int → (Bool → Int → Option β) → Option β
def zq1fo : zq1fn := fun s b0_ k =>
 zq1de s b0_ (fun (rDiff : Int) (mrDiff : Int) =>
 let t : Bool := (decide ((0 : Int) ≤ rDiff));
 k t mrDiff)
def zq1fp : zq1fn := hid zq1fo
noncomputable def zq1fq : En := ⟨156, .spec (sg [b33y, (false, [.fn 157 [0]])] [b71y] [b30y] [b71y] zq1fp), pf [zq1df] [] [.tmp 4] Tryz.func156 (by kernel_rfl) fun _ _ => by kernel_rfl⟩
abbrev zq1fr := {β : Type} → zqo → Int → Int → (t0y → Int → Option β) → Option β
def zq1fs : zq1fr := fun r_ a b k =>
 zq1di r_ (fun (rConsistent : Bool) =>
 cond (!rConsistent)
 (k ((0 : Int), (0 : Int)) (8 : Int))
 (zq1dm r_ a b (fun (rGap : t0y) (rGap2 : Bool) =>
 cond (!rGap2)
 (k ((0 : Int), (0 : Int)) (3 : Int))
 (let t : Bool := (decide (rGap.2 < (0 : Int)));
 cond t
 (k ((0 : Int), (0 : Int)) (6 : Int))
 (k ((if (0 : Int) > rGap.1 then (0 : Int) else rGap.1), rGap.2) (0 : Int))))))
def zq1ft : zq1fr := hid zq1fs
noncomputable def zq1fu : En := ⟨17, .spec (sg [b49y, b27y, b27y] [] [b35y, b27y] [] zq1ft), pf [zq1dj, zq1dn] [] [.cell 6 57, .tmp 7] Tryz.func17 (by kernel_rfl) fun _ _ => by kernel_rfl⟩
abbrev zq1fv := {β : Type} → t10y → (t0y → Int → Option β) → Option β
def zq1fw : zq1fv := fun l k =>
 zq1dq l (fun (rcheck : Int) =>
 cond (!decide (rcheck = (0 : Int)))
 (k ((0 : Int), (0 : Int)) rcheck)
 (zq4y l (fun (rsum : t0y) =>
 k rsum (0 : Int))))
def zq1fx : zq1fv := hid zq1fw
noncomputable def zq1fy : En := ⟨20, .spec (sg [b31y] [] [b35y, b27y] [] zq1fx), pf [zq1dr, zq4z] [] [.cell 2 57, .tmp 3] Tryz.func20 (by kernel_rfl) fun _ _ => by kernel_rfl⟩
abbrev zq1fz := {β : Type} → t10y → (t0y → t0y → Int → Option β) → Option β
def zq1g0 : zq1fz := fun l k =>
 cond (decide ((List.length l : Int) = (0 : Int)))
 (k ((0 : Int), (0 : Int)) ((0 : Int), (0 : Int)) (7 : Int))
 (zq1dq l (fun (rcheck : Int) =>
 cond (!decide (rcheck = (0 : Int)))
 (k ((0 : Int), (0 : Int)) ((0 : Int), (0 : Int)) rcheck)
 (zq4y l (fun (rsum : t0y) =>
 zqrd rsum.1 (List.length l : Int) (fun (rNew : t0y) (rNew2 : Int) =>
 zqrd rsum.2 (List.length l : Int) (fun (rNew3 : t0y) (rNew4 : Int) =>
 k rNew rNew3 (0 : Int)))))))
def zq1g1 : zq1fz := hid zq1g0
noncomputable def zq1g2 : En := ⟨22, .spec (sg [b31y] [] [b35y, b35y, b27y] [] zq1g1), pf [zqre, zq1dr, zq4z] [] [.cell 2 83, .cell 3 83, .tmp 4] Tryz.func22 (by kernel_rfl) fun _ _ => by kernel_rfl⟩
abbrev zq1g3 := {β : Type} → t10y → Int → Int → (t0y → Int → Option β) → Option β
def zq1g4 : zq1g3 := fun l num den k =>
 cond (decide ((List.length l : Int) = (0 : Int)))
 (k ((0 : Int), (0 : Int)) (7 : Int))
 (zq1dq l (fun (rcheck : Int) =>
 cond (!decide (rcheck = (0 : Int)))
 (k ((0 : Int), (0 : Int)) rcheck)
 (zq52 den (1 : Int) (1000 : Int) (fun (rin : Bool) =>
 cond (!rin)
 (k ((0 : Int), (0 : Int)) (1 : Int))
 (zq52 num (0 : Int) den (fun (rin2 : Bool) =>
 cond (!rin2)
 (k ((0 : Int), (0 : Int)) (1 : Int))
 (cond (!decide (den = 0))
 (let k_ : Int := (if (IntKind.i64.wrap (Int.tdiv (IntKind.i64.wrap ((IntKind.i64.wrap ((IntKind.i64.wrap (num * (List.length l : Int))) + den)) - (1 : Int))) den)) > (1 : Int) then (IntKind.i64.wrap (Int.tdiv (IntKind.i64.wrap ((IntKind.i64.wrap ((IntKind.i64.wrap (num * (List.length l : Int))) + den)) - (1 : Int))) den)) else (1 : Int));
 zqrl l (fun (rsort : (List Int × List Int)) =>
 cond (decide (0 ≤ (IntKind.i64.wrap (k_ - (1 : Int)))) && decide ((IntKind.i64.wrap (k_ - (1 : Int))) < (List.length rsort.1 : Int)))
 (let e : Int := List.getD rsort.1 (Int.toNat (IntKind.i64.wrap (k_ - (1 : Int)))) (0 : Int);
 cond (decide (0 ≤ (IntKind.i64.wrap (k_ - (1 : Int)))) && decide ((IntKind.i64.wrap (k_ - (1 : Int))) < (List.length rsort.2 : Int)))
 (let e2 : Int := List.getD rsort.2 (Int.toNat (IntKind.i64.wrap (k_ - (1 : Int)))) (0 : Int);
 k (e, e2) (0 : Int))
 none)
 none))
 none)))))))
def zq1g5 : zq1g3 := hid zq1g4
noncomputable def zq1g6 : En := ⟨24, .spec (sg [b31y, b27y, b27y] [] [b35y, b27y] [] zq1g5), pf [zq1dr, zq53, zqrm] [] [.cell 6 57, .tmp 7] Tryz.func24 (by kernel_rfl) fun _ _ => by kernel_rfl⟩
abbrev zq1g7 := {β : Type} → Int → t9y → (Bool → Option β) → Option β
def zq1g8 : zq1g7 := fun n l k =>
 zqj3 n (1 : Int) (41 : Int) (fun (rin : Bool) =>
 cond (!rin)
 (k false)
 (cond (decide ((4000 : Int) < (List.length l : Int)))
 (k false)
 (zq1fp l n (fun (rDiff : Bool) (mrDiff : Int) =>
 k (!rDiff)))))
def zq1g9 : zq1g7 := hid zq1g8
noncomputable def zq1ga : En := ⟨125, .spec (sg [b27y, b33y] [] [b30y] [] zq1g9), pf [zqj4, zq1fq] [] [.tmp 4] Tryz.func125 (by kernel_rfl) fun _ _ => by kernel_rfl⟩
abbrev zq1gb := {β : Type} → zqi → (Int → t10y → Option β) → Option β
noncomputable def zq1gc : List En := [zqlp, zq1fm, zqm9]
abbrev zq1gd (β : Type) := Int → t10y → Option β
abbrev zq1ge (β : Type) := Int → zqi → Option β
abbrev zq1gf (β : Type) := Int → Int → zqi → Option β
noncomputable def zq1gg : Pc := ⟨119, 0, Q1 250 (Q2 Tryz.f194), ⟨0, [1, 4, 5], [b29y, b27y, b27y], [b65y]⟩, [(.ret, ⟨0, [2, 3], [b50y, b27y], [.row 286 (.prod (.int .i64) (.int .i64))]⟩), (.exit 0, ⟨0, [1, 4], [b29y, b27y], [b65y]⟩)]⟩
abbrev zq1gh (β : Type) := Int → t10y → Option β
abbrev zq1gi (β : Type) := t10y → Option β
abbrev zq1gj (β : Type) := Int → Int → t10y → t10y → Option β
noncomputable def zq1gk : Pc := ⟨119, 0, Q1 8186 (Q2 Tryz.f194), ⟨0, [6, 7, 8, 9], [b50y, b45y, b27y, b27y], [.row 286 (.prod (.int .i64) (.int .i64)), .row 285 (.prod (.int .i64) (.int .i64))]⟩, [(.ret, ⟨0, [2, 3], [b50y, b27y], [.row 286 (.prod (.int .i64) (.int .i64))]⟩), (.exit 2, ⟨0, [6], [b50y], [.row 286 (.prod (.int .i64) (.int .i64))]⟩)]⟩
def zq1gl {β : Type} (rec : zq1gf β) (k1 : zq1gd β) (k2 : zq1ge β) : zq1gf β := fun n i_ z =>
 cond (decide (i_ < (List.length z.2.2 : Int)))
 (cond (decide (0 ≤ i_) && decide (i_ < (List.length z.2.2 : Int)))
 (let e : zqg := List.getD z.2.2 (Int.toNat i_) ((0 : Int), ((0 : Int), ((0 : Int), zq12)));
 zqm8 e (fun (rright : Bool) =>
 cond (!rright)
 (k1 (1 : Int) ([] : List t0y))
 (cond (decide (0 ≤ i_) && decide (i_ < (List.length z.2.2 : Int)))
 (let e2 : zqg := List.getD z.2.2 (Int.toNat i_) ((0 : Int), ((0 : Int), ((0 : Int), zq12)));
 cond (decide (0 ≤ i_) && decide (i_ < (List.length z.2.2 : Int)))
 (let e3 : zqg := List.getD z.2.2 (Int.toNat i_) ((0 : Int), ((0 : Int), ((0 : Int), zq12)));
 let n2 : Int := (IntKind.i64.wrap (n + (IntKind.i64.wrap ((IntKind.i64.wrap (e2.2.1 - e3.1)) + (1 : Int)))));
 let i_2 : Int := (IntKind.i64.wrap (i_ + (1 : Int)));
 rec n2 i_2 z)
 none)
 none)))
 none)
 (k2 n z)
def zq1gm (m : Nat) {β : Type} (k1 : zq1gd β) (k2 : zq1ge β) : zq1gf β := lp3 (fun r => zq1gl r k1 k2) none m
theorem zq1gn {β : Type} (i : Nat) (k1 k2) : zq1gm (β := β) (i + 1) k1 k2 = zq1gl (zq1gm i k1 k2) k1 k2 := rfl
def zq1go {β : Type} := hid (zq1gm (β := β) fuel)
noncomputable def zq1gp : Pb := ⟨250, zq1gg, fun _ => zq1go, pl (p := zq1gg) zq1gc [] (g := fun i _ => zq1gm i) (by kernel_rfl) rfl (by kernel_rfl) (fun _ _ => rfl) fun _ _ _ _ => by kernel_rfl⟩
def zq1gq {β : Type} (rec : zq1gj β) (k1 : zq1gh β) (k2 : zq1gi β) : zq1gj β := fun now i_ out l =>
 cond (decide (i_ < (List.length l : Int)))
 (cond (decide (0 ≤ i_) && decide (i_ < (List.length l : Int)))
 (cond (decide (((List.getD l (Int.toNat i_) ((0 : Int), (0 : Int))).2) = now))
 (let i_2 : Int := (IntKind.i64.wrap (i_ + (1 : Int)));
 rec now i_2 out l)
 (cond (decide (0 ≤ i_) && decide (i_ < (List.length l : Int)))
 (cond (decide (0 ≤ i_) && decide (i_ < (List.length l : Int)))
 (zqlo (IntKind.i64.wrap (((List.getD l (Int.toNat i_) ((0 : Int), (0 : Int))).2) - now)) (-86399 : Int) (86399 : Int) (fun (rin : Bool) =>
 cond (!rin)
 (k1 (6 : Int) ([] : List t0y))
 (zqlo (IntKind.i64.wrap (((List.getD l (Int.toNat i_) ((0 : Int), (0 : Int))).1) - now)) (0 : Int) (8589934592 : Int) (fun (rin2 : Bool) =>
 cond (!rin2)
 (k1 (6 : Int) ([] : List t0y))
 (cond (decide ((0 : Int) < (List.length out : Int)))
 (cond (decide (0 ≤ (IntKind.i64.wrap ((List.length out : Int) - (1 : Int)))) && decide ((IntKind.i64.wrap ((List.length out : Int) - (1 : Int))) < (List.length out : Int)))
 (cond (decide ((IntKind.i64.wrap ((IntKind.i64.wrap (((List.getD l (Int.toNat i_) ((0 : Int), (0 : Int))).1) - now)) - ((List.getD out (Int.toNat (IntKind.i64.wrap ((List.length out : Int) - (1 : Int)))) ((0 : Int), (0 : Int))).1))) < (604800 : Int)))
 (k1 (6 : Int) ([] : List t0y))
 (let l2 : List t0y := ([((IntKind.i64.wrap (((List.getD l (Int.toNat i_) ((0 : Int), (0 : Int))).1) - now)), (List.getD l (Int.toNat i_) ((0 : Int), (0 : Int))).2)] : List t0y);
 cond (decide ((List.length out + List.length l2) * 16 ≤ Q5))
 (let l3 : List t0y := (out ++ l2);
 let now2 : Int := (List.getD l (Int.toNat i_) ((0 : Int), (0 : Int))).2;
 let i_2 : Int := (IntKind.i64.wrap (i_ + (1 : Int)));
 rec now2 i_2 l3 l)
 none))
 none)
 (let l2 : List t0y := ([((IntKind.i64.wrap (((List.getD l (Int.toNat i_) ((0 : Int), (0 : Int))).1) - now)), (List.getD l (Int.toNat i_) ((0 : Int), (0 : Int))).2)] : List t0y);
 cond (decide ((List.length out + List.length l2) * 16 ≤ Q5))
 (let l3 : List t0y := (out ++ l2);
 let now2 : Int := (List.getD l (Int.toNat i_) ((0 : Int), (0 : Int))).2;
 let i_2 : Int := (IntKind.i64.wrap (i_ + (1 : Int)));
 rec now2 i_2 l3 l)
 none))))))
 none)
 none))
 none)
 (k2 out)
def zq1gr (m : Nat) {β : Type} (k1 : zq1gh β) (k2 : zq1gi β) : zq1gj β := lp4 (fun r => zq1gq r k1 k2) none m
theorem zq1gs {β : Type} (i : Nat) (k1 k2) : zq1gr (β := β) (i + 1) k1 k2 = zq1gq (zq1gr i k1 k2) k1 k2 := rfl
def zq1gt {β : Type} := hid (zq1gr (β := β) fuel)
noncomputable def zq1gu : Pb := ⟨8186, zq1gk, fun _ => zq1gt, pl (p := zq1gk) zq1gc [] (g := fun i _ => zq1gr i) (by kernel_rfl) rfl (by kernel_rfl) (fun _ _ => rfl) fun _ _ _ _ => by kernel_rfl⟩
def zq1gv : zq1gb := fun z k =>
 zqlo z.2.1 (-64800 : Int) (64800 : Int) (fun (rin : Bool) =>
 cond (!rin)
 (k (1 : Int) ([] : List t0y))
 (cond (decide ((16 : Int) < (List.length z.2.2 : Int)))
 (k (5 : Int) ([] : List t0y))
 (zq1go (fun (t3 : Int) (t2 : List t0y) =>
 k t3 t2) (fun (n : Int) (z2 : zqi) =>
 cond (decide ((640 : Int) < n))
 (k (5 : Int) ([] : List t0y))
 (zq1fl z2.2.2 (fun (lroccurrences : List t0y) =>
 zq1gt (fun (t3 : Int) (t2 : List t0y) =>
 k t3 t2) (fun (out : List t0y) =>
 k (0 : Int) out) z2.2.1 (0 : Int) ([] : List t0y) lroccurrences))) (0 : Int) (0 : Int) z)))
def zq1gw : zq1gb := hid zq1gv
noncomputable def zq1gx : En := ⟨194, .spec (sg [b61y] [] [b50y, b27y] [.row 286 (.prod (.int .i64) (.int .i64))] zq1gw), pf zq1gc [zq1gp, zq1gu] [.tmp 2, .tmp 3] Tryz.func194 (by kernel_rfl) fun _ _ => by kernel_rfl⟩
abbrev zq1gy := {β : Type} → zqi → t0y → (Int → Int → Option β) → Option β
noncomputable def zq1gz : List En := [zq1gx, zqlp, zqmh]
abbrev zq1h0 (β : Type) := Int → Int → Option β
abbrev zq1h1 (β : Type) := Unit → Option β
abbrev zq1h2 (β : Type) := Int → zqi → t0y → t10y → Option β
noncomputable def zq1h3 : Pc := ⟨76, 0, Q1 1018 (Q2 Tryz.f208), ⟨0, [2, 3, 6, 8], [b29y, b34y, b52y, b27y], [b65y, b59y, .row 286 (.prod (.int .i64) (.int .i64))]⟩, [(.ret, ⟨0, [4, 5], [b27y, b27y], []⟩), (.exit 0, ⟨0, [], [], []⟩)]⟩
abbrev zq1h4 (β : Type) := Int → Int → Option β
abbrev zq1h5 (β : Type) := Int → zqi → t0y → t10y → Option β
abbrev zq1h6 (β : Type) := Int → Int → Int → Int → zqi → t0y → t10y → Option β
noncomputable def zq1h7 : Pc := ⟨76, 0, Q1 103 (Qb zq1h3.c), ⟨0, [2, 3, 6, 8, 9, 10, 11], [b29y, b34y, b52y, b27y, b27y, b27y, b27y], [b65y, b59y, .row 286 (.prod (.int .i64) (.int .i64))]⟩, [(.ret, ⟨0, [4, 5], [b27y, b27y], []⟩), (.normal, ⟨0, [2, 3, 6, 8], [b29y, b34y, b52y, b27y], [b65y, b59y, .row 286 (.prod (.int .i64) (.int .i64))]⟩)]⟩
abbrev zq1h8 (β : Type) := Int → Int → Option β
abbrev zq1h9 (β : Type) := Int → zqi → t0y → t10y → Option β
abbrev zq1ha (β : Type) := Int → Int → Int → Int → zqi → t0y → t10y → Option β
noncomputable def zq1hb : Pc := ⟨76, 0, Q1 51 (Qb zq1h3.c), ⟨0, [2, 3, 6, 8, 9, 10, 11], [b29y, b34y, b52y, b27y, b27y, b27y, b27y], [b65y, b59y, .row 286 (.prod (.int .i64) (.int .i64))]⟩, [(.ret, ⟨0, [4, 5], [b27y, b27y], []⟩), (.normal, ⟨0, [2, 3, 6, 8], [b29y, b34y, b52y, b27y], [b65y, b59y, .row 286 (.prod (.int .i64) (.int .i64))]⟩)]⟩
def zq1hc {β : Type} (k1 : zq1h4 β) (k2 : zq1h5 β) : zq1h6 β := fun i_ n from_ to_ z x l =>
 let t : Int := (if (IntKind.i64.wrap ((IntKind.i64.wrap ((IntKind.i64.wrap (x.1 * (86400 : Int))) + x.2)) - n)) > from_ then (IntKind.i64.wrap ((IntKind.i64.wrap ((IntKind.i64.wrap (x.1 * (86400 : Int))) + x.2)) - n)) else from_);
 cond (decide (t < to_))
 (k1 t (0 : Int))
 (k2 i_ z x l)
def zq1hd {β : Type} := hid (zq1hc (β := β))
noncomputable def zq1he : Pb := ⟨103, zq1h7, fun _ => zq1hd, pe (p := zq1h7) zq1gz [] 103 (g := fun _ => zq1hc) (by kernel_rfl) fun _ _ => by kernel_rfl⟩
def zq1hf {β : Type} (k1 : zq1h8 β) (k2 : zq1h9 β) : zq1ha β := fun i_ n from_ to_ z x l =>
 cond (decide ((IntKind.i64.wrap (i_ + (1 : Int))) < (List.length l : Int)))
 (cond (decide (0 ≤ (IntKind.i64.wrap (i_ + (1 : Int)))) && decide ((IntKind.i64.wrap (i_ + (1 : Int))) < (List.length l : Int)))
 (let to_2 : Int := (List.getD l (Int.toNat (IntKind.i64.wrap (i_ + (1 : Int)))) ((0 : Int), (0 : Int))).1;
 zq1hd (fun (t4 : Int) (t5 : Int) =>
 k1 t4 t5) (fun (i_2 : Int) (z2 : zqi) (x2 : t0y) (l2 : List t0y) =>
 k2 i_2 z2 x2 l2) i_ n from_ to_2 z x l)
 none)
 (zq1hd (fun (t4 : Int) (t5 : Int) =>
 k1 t4 t5) (fun (i_2 : Int) (z2 : zqi) (x2 : t0y) (l2 : List t0y) =>
 k2 i_2 z2 x2 l2) i_ n from_ to_ z x l)
def zq1hg {β : Type} := hid (zq1hf (β := β))
noncomputable def zq1hh : Pb := ⟨51, zq1hb, fun _ => zq1hg, pe (p := zq1hb) zq1gz [zq1he] 51 (g := fun _ => zq1hf) (by kernel_rfl) fun _ _ => by kernel_rfl⟩
def zq1hi {β : Type} (rec : zq1h2 β) (k1 : zq1h0 β) (k2 : zq1h1 β) : zq1h2 β := fun i_ z x l =>
 cond (decide (i_ < (List.length l : Int)))
 (cond (decide ((0 : Int) ≤ i_))
 (cond (decide (0 ≤ i_) && decide (i_ < (List.length l : Int)))
 (cond (decide (0 ≤ i_) && decide (i_ < (List.length l : Int)))
 (let n : Int := (List.getD l (Int.toNat i_) ((0 : Int), (0 : Int))).2;
 let from_ : Int := (List.getD l (Int.toNat i_) ((0 : Int), (0 : Int))).1;
 zq1hg (fun (t4 : Int) (t5 : Int) =>
 k1 t4 t5) (fun (i_2 : Int) (z2 : zqi) (x2 : t0y) (l2 : List t0y) =>
 let i_3 : Int := (IntKind.i64.wrap (i_2 + (1 : Int)));
 rec i_3 z2 x2 l2) i_ n from_ (8589934593 : Int) z x l)
 none)
 none)
 (zq1hg (fun (t4 : Int) (t5 : Int) =>
 k1 t4 t5) (fun (i_2 : Int) (z2 : zqi) (x2 : t0y) (l2 : List t0y) =>
 let i_3 : Int := (IntKind.i64.wrap (i_2 + (1 : Int)));
 rec i_3 z2 x2 l2) i_ z.2.1 (0 : Int) (8589934593 : Int) z x l))
 (k2 ())
def zq1hj (m : Nat) {β : Type} (k1 : zq1h0 β) (k2 : zq1h1 β) : zq1h2 β := lp4 (fun r => zq1hi r k1 k2) none m
theorem zq1hk {β : Type} (i : Nat) (k1 k2) : zq1hj (β := β) (i + 1) k1 k2 = zq1hi (zq1hj i k1 k2) k1 k2 := rfl
def zq1hl {β : Type} := hid (zq1hj (β := β) fuel)
noncomputable def zq1hm : Pb := ⟨1018, zq1h3, fun _ => zq1hl, pl (p := zq1h3) zq1gz [zq1hh] (g := fun i _ => zq1hj i) (by kernel_rfl) rfl (by kernel_rfl) (fun _ _ => rfl) fun _ _ _ _ => by kernel_rfl⟩
def zq1hn : zq1gy := fun z x k =>
 zq1gw z (fun (rTransitions : Int) (lrTransitions : List t0y) =>
 cond (!decide (rTransitions = (0 : Int)))
 (k (0 : Int) (8 : Int))
 (zqlo x.2 (0 : Int) (86399 : Int) (fun (rin : Bool) =>
 cond (!rin)
 (k (0 : Int) (1 : Int))
 (cond (decide (x.1 < (-2 : Int)))
 (k (0 : Int) (0 : Int))
 (zqmg x.1 (fun (rsmall : Bool) =>
 cond (!rsmall)
 (k (0 : Int) (10 : Int))
 (zq1hl (fun (t4 : Int) (t5 : Int) =>
 k t4 t5) (fun (_ : Unit) =>
 k (0 : Int) (10 : Int)) (-1 : Int) z x lrTransitions)))))))
def zq1ho : zq1gy := hid zq1hn
noncomputable def zq1hp : En := ⟨208, .spec (sg [b61y, b35y] [] [b27y, b27y] [] zq1ho), pf zq1gz [zq1hm] [.tmp 4, .tmp 5] Tryz.func208 (by kernel_rfl) fun _ _ => by kernel_rfl⟩
abbrev zq1hq := {β : Type} → zqi → zqa → Int → (Int → Bool → Option β) → Option β
noncomputable def zq1hr : List En := [zq1hp]
abbrev zq1hs (β : Type) := Int → Bool → Option β
abbrev zq1ht (β : Type) := Int → zqi → zqa → Option β
noncomputable def zq1hu : Pc := ⟨66, 0, Q1 31 (Q2 Tryz.f209), ⟨0, [3, 4, 11], [b29y, b34y, b27y], [b65y, b55y]⟩, [(.ret, ⟨0, [6, 7], [b27y, b30y], []⟩)]⟩
def zq1hv {β : Type} (k1 : zq1hs β) : zq1ht β := fun days z l =>
 zq1ho z ((IntKind.i64.wrap (l.2.2.1.1 + days)), l.2.2.1.2) (fun (rFirst : Int) (rFirst2 : Int) =>
 let t : Bool := (decide (rFirst2 = (0 : Int)));
 k1 rFirst t)
def zq1hw {β : Type} := hid (zq1hv (β := β))
noncomputable def zq1hx : Pb := ⟨31, zq1hu, fun _ => zq1hw, pe (p := zq1hu) zq1hr [] 31 (g := fun _ => zq1hv) (by kernel_rfl) fun _ _ => by kernel_rfl⟩
def zq1hy : zq1hq := fun z l k_ k =>
 cond (decide (l.2.2.2.1 = (0 : Int)))
 (zq1ho z l.2.2.1 (fun (rFirst : Int) (rFirst2 : Int) =>
 let n : Int := (IntKind.i64.wrap ((IntKind.i64.wrap (k_ * l.2.2.2.2.1)) * (3600 : Int)));
 cond (decide (rFirst2 = (0 : Int)))
 (let t : Int := (IntKind.i64.wrap (rFirst + n));
 let t2 : Bool := (decide ((IntKind.i64.wrap (rFirst + n)) ≤ (8589934592 : Int)));
 k t t2)
 (let t : Int := (IntKind.i64.wrap (rFirst + n));
 k t false)))
 (let days : Int := (IntKind.i64.wrap (k_ * l.2.2.2.2.1));
 cond (decide (l.2.2.2.1 = (2 : Int)))
 (let days2 : Int := (IntKind.i64.wrap (days * (7 : Int)));
 zq1hw (fun (t6 : Int) (t7 : Bool) =>
 k t6 t7) days2 z l)
 (zq1hw (fun (t6 : Int) (t7 : Bool) =>
 k t6 t7) days z l))
def zq1hz : zq1hq := hid zq1hy
noncomputable def zq1i0 : En := ⟨209, .spec (sg [b61y, b80y, b27y] [] [b27y, b30y] [] zq1hz), pf zq1hr [zq1hx] [.tmp 6, .tmp 7] Tryz.func209 (by kernel_rfl) fun _ _ => by kernel_rfl⟩
abbrev zq1i1 := {β : Type} → (Bool → Option β) → Option β
def zq1i2 : zq1i1 := fun k =>
 let l : List t0y := ([((1 : Int), (3 : Int)), ((2 : Int), (2 : Int))] : List t0y);
 zq1fx l (fun (rSum : t0y) (rSum2 : Int) =>
 zq1g1 l (fun (rMean : t0y) (rMean2 : t0y) (rMean3 : Int) =>
 zq1g5 l (1 : Int) (2 : Int) (fun (rRank : t0y) (rRank2 : Int) =>
 cond (decide (rSum2 = (0 : Int)))
 (cond (decide (rSum.1 = (3 : Int)) && (decide (rSum.2 = (5 : Int)) && true))
 (cond (decide (rMean3 = (0 : Int)))
 (cond (decide (rMean.1 = (3 : Int)) && (decide (rMean.2 = (2 : Int)) && true))
 (cond (decide (rMean2.1 = (5 : Int)) && (decide (rMean2.2 = (2 : Int)) && true))
 (cond (decide (rRank2 = (0 : Int)))
 (let t : Bool := (decide (rRank.1 = (1 : Int)) && (decide (rRank.2 = (2 : Int)) && true));
 k t)
 (k false))
 (k false))
 (k false))
 (k false))
 (k false))
 (k false))))
def zq1i3 : zq1i1 := hid zq1i2
noncomputable def zq1i4 : En := ⟨5, .spec (sg [] [] [b30y] [] zq1i3), pf [zq1g2, zq1g6, zq1fy] [] [.tmp 0] Tryz.func5 (by kernel_rfl) fun _ _ => by kernel_rfl⟩
theorem zq1i5 : SpecOk Tryz.prog 5 (sg [] [] [b30y] [] zq1i3) := zq1i4.ok
end
end Go.Lift
namespace Go.Lift
open Go.Proofs
noncomputable section
set_option maxRecDepth 100000
set_option linter.unusedVariables false
abbrev zq1i6 := {β : Type} → Int → t9y → (t14y → Bool → Option β) → Option β
noncomputable def zq1i7 : List En := [zq1ga, zqg3]
abbrev zq1i8 (β : Type) := Int → t14y → Option β
abbrev zq1i9 (β : Type) := Int → Int → Int → t14y → Option β
noncomputable def zq1ia : Pc := ⟨122, 0, Q1 122 (Q2 Tryz.f112), ⟨0, [0, 6, 19, 20], [b27y, (false, [.math 0]), b27y, b27y], [.mat 22 3 (.int .i64)]⟩, [(.exit 0, ⟨0, [0, 6], [b27y, (false, [.math 0])], [.mat 22 3 (.int .i64)]⟩)]⟩
abbrev zq1ib (β : Type) := Bool → t14y → Option β
abbrev zq1ic (β : Type) := Int → t14y → Option β
abbrev zq1id (β : Type) := Int → Int → Int → t14y → Option β
noncomputable def zq1ie : Pc := ⟨122, 0, Q1 250 (Q2 Tryz.f112), ⟨0, [0, 6, 38, 39], [b27y, (false, [.math 0]), b27y, b27y], [.mat 22 3 (.int .i64)]⟩, [(.ret, ⟨0, [4, 5], [(false, [.math 0]), b30y], [.mat 22 3 (.int .i64)]⟩), (.exit 2, ⟨0, [0, 6], [b27y, (false, [.math 0])], [.mat 22 3 (.int .i64)]⟩)]⟩
abbrev zq1if (β : Type) := Bool → t14y → Option β
abbrev zq1ig (β : Type) := t14y → Option β
abbrev zq1ih (β : Type) := Int → Int → t14y → Option β
noncomputable def zq1ii : Pc := ⟨122, 0, Q1 506 (Q2 Tryz.f112), ⟨0, [6, 108, 109], [(false, [.math 0]), b27y, b27y], [.mat 22 3 (.int .i64)]⟩, [(.ret, ⟨0, [4, 5], [(false, [.math 0]), b30y], [.mat 22 3 (.int .i64)]⟩), (.exit 8, ⟨0, [6], [(false, [.math 0])], [.mat 22 3 (.int .i64)]⟩)]⟩
abbrev zq1ij (β : Type) := Int → Int → Int → Int → t14y → Option β
abbrev zq1ik (β : Type) := Int → Int → Int → Int → Int → Int → t14y → Option β
noncomputable def zq1il : Pc := ⟨122, 0, Q1 458 (Qb zq1ie.c), ⟨0, [0, 6, 8, 38, 39, 42, 43], [b27y, (false, [.math 0]), b27y, b27y, b27y, b27y, b27y], [.mat 22 3 (.int .i64)]⟩, [(.exit 4, ⟨0, [0, 6, 8, 38, 39], [b27y, (false, [.math 0]), b27y, b27y, b27y], [.mat 22 3 (.int .i64)]⟩)]⟩
abbrev zq1im (β : Type) := Int → Int → Int → Int → Int → Int → t14y → Option β
abbrev zq1in (β : Type) := Int → Int → Int → Int → Int → Int → Int → Int → Int → t14y → Option β
noncomputable def zq1io : Pc := ⟨122, 0, Q1 230 (Qb zq1il.c), ⟨0, [0, 6, 8, 9, 38, 39, 42, 43, 46, 47], [b27y, (false, [.math 0]), b27y, b27y, b27y, b27y, b27y, b27y, b27y, b27y], [.mat 22 3 (.int .i64)]⟩, [(.exit 6, ⟨0, [0, 6, 8, 38, 39, 42, 43], [b27y, (false, [.math 0]), b27y, b27y, b27y, b27y, b27y], [.mat 22 3 (.int .i64)]⟩)]⟩
abbrev zq1ip (β : Type) := Int → Int → Int → Int → Int → Int → Int → Int → Int → t14y → Option β
abbrev zq1iq (β : Type) := Int → Int → Int → Int → Int → Int → Int → Int → Int → Int → Bool → t14y → Option β
noncomputable def zq1ir : Pc := ⟨122, 0, Q1 115 (Qb zq1io.c), ⟨0, [0, 6, 8, 9, 10, 38, 39, 42, 43, 46, 47, 67], [b27y, (false, [.math 0]), b27y, b27y, b27y, b27y, b27y, b27y, b27y, b27y, b27y, b30y], [.mat 22 3 (.int .i64)]⟩, [(.normal, ⟨0, [0, 6, 8, 9, 38, 39, 42, 43, 46, 47], [b27y, (false, [.math 0]), b27y, b27y, b27y, b27y, b27y, b27y, b27y, b27y], [.mat 22 3 (.int .i64)]⟩)]⟩
def zq1is {β : Type} (rec : zq1i9 β) (k1 : zq1i8 β) : zq1i9 β := fun n t19 t20 m =>
 cond (decide (t20 < t19))
 (cond (decide (0 ≤ t20) && decide (t20 < (List.length m : Int)))
 (cond (decide (0 ≤ t20) && decide (t20 < (List.length m : Int)))
 (cond (decide (0 ≤ t20) && decide (t20 < (List.length (List.getD m (Int.toNat t20) []) : Int)))
 (cond (decide (0 ≤ t20) && decide (t20 < (List.length (List.getD m (Int.toNat t20) []) : Int)))
 (let m_ : List t3y := (List.set m (Int.toNat t20) (List.set (List.getD m (Int.toNat t20) []) (Int.toNat t20) (if (0 : Int) < (List.getD (List.getD m (Int.toNat t20) []) (Int.toNat t20) (0 : Int)) then (0 : Int) else (List.getD (List.getD m (Int.toNat t20) []) (Int.toNat t20) (0 : Int)))));
 rec n t19 (IntKind.i64.wrap (t20 + (1 : Int))) m_)
 none)
 none)
 none)
 none)
 (k1 n m)
def zq1it (m : Nat) {β : Type} (k1 : zq1i8 β) : zq1i9 β := lp4 (fun r => zq1is r k1) none m
theorem zq1iu {β : Type} (i : Nat) (k1) : zq1it (β := β) (i + 1) k1 = zq1is (zq1it i k1) k1 := rfl
def zq1iv {β : Type} := hid (zq1it (β := β) fuel)
noncomputable def zq1iw : Pb := ⟨122, zq1ia, fun _ => zq1iv, Q1n mixed (X := ⟨look tab, gam zq1i7, true, false, false, false, []⟩) (p := zq1ia) Qp zq1i7 rfl [] (g := fun i _ => zq1it i) (by kernel_rfl) rfl (by kernel_rfl) (fun _ _ => rfl) fun _ _ _ _ => by kernel_rfl⟩
def zq1ix {β : Type} (k1 : zq1ip β) : zq1iq β := fun n k_ i_ j t38 t39 t42 t43 t46 t47 t67 m =>
 cond t67
 (cond (decide (0 ≤ i_) && decide (i_ < (List.length m : Int)))
 (cond (decide (0 ≤ i_) && decide (i_ < (List.length m : Int)))
 (cond (decide (0 ≤ j) && decide (j < (List.length (List.getD m (Int.toNat i_) []) : Int)))
 (cond (decide (0 ≤ i_) && decide (i_ < (List.length m : Int)))
 (cond (decide (0 ≤ k_) && decide (k_ < (List.length (List.getD m (Int.toNat i_) []) : Int)))
 (cond (decide (0 ≤ k_) && decide (k_ < (List.length m : Int)))
 (cond (decide (0 ≤ j) && decide (j < (List.length (List.getD m (Int.toNat k_) []) : Int)))
 (cond (decide (0 ≤ j) && decide (j < (List.length (List.getD m (Int.toNat i_) []) : Int)))
 (let m_ : List t3y := (List.set m (Int.toNat i_) (List.set (List.getD m (Int.toNat i_) []) (Int.toNat j) (if (IntKind.i64.wrap ((List.getD (List.getD m (Int.toNat i_) []) (Int.toNat k_) (0 : Int)) + (List.getD (List.getD m (Int.toNat k_) []) (Int.toNat j) (0 : Int)))) < (List.getD (List.getD m (Int.toNat i_) []) (Int.toNat j) (0 : Int)) then (IntKind.i64.wrap ((List.getD (List.getD m (Int.toNat i_) []) (Int.toNat k_) (0 : Int)) + (List.getD (List.getD m (Int.toNat k_) []) (Int.toNat j) (0 : Int)))) else (List.getD (List.getD m (Int.toNat i_) []) (Int.toNat j) (0 : Int)))));
 k1 n k_ i_ t38 t39 t42 t43 t46 t47 m_)
 none)
 none)
 none)
 none)
 none)
 none)
 none)
 none)
 (k1 n k_ i_ t38 t39 t42 t43 t46 t47 m)
def zq1iy {β : Type} := hid (zq1ix (β := β))
noncomputable def zq1iz : Pb := ⟨115, zq1ir, fun _ => zq1iy, Qic mixed (X := ⟨look tab, gam zq1i7, true, false, false, false, []⟩) (p := zq1ir) Qp zq1i7 rfl [] 115 (g := fun _ => zq1ix) (by kernel_rfl) fun _ _ => by kernel_rfl⟩
def zq1j0 {β : Type} (rec : zq1in β) (k1 : zq1im β) : zq1in β := fun n k_ i_ t38 t39 t42 t43 t46 t47 m =>
 cond (decide (t47 < t46))
 (cond (decide (0 ≤ i_) && decide (i_ < (List.length m : Int)))
 (cond (decide (0 ≤ k_) && decide (k_ < (List.length (List.getD m (Int.toNat i_) []) : Int)))
 (cond (!decide ((List.getD (List.getD m (Int.toNat i_) []) (Int.toNat k_) (0 : Int)) = (1099511627776 : Int)))
 (cond (decide (0 ≤ k_) && decide (k_ < (List.length m : Int)))
 (cond (decide (0 ≤ t47) && decide (t47 < (List.length (List.getD m (Int.toNat k_) []) : Int)))
 (zq1iy (fun (n2 : Int) (k_2 : Int) (i_2 : Int) (t382 : Int) (t392 : Int) (t422 : Int) (t432 : Int) (t462 : Int) (t472 : Int) (m2 : List t3y) =>
 rec n2 k_2 i_2 t382 t392 t422 t432 t462 (IntKind.i64.wrap (t472 + (1 : Int))) m2) n k_ i_ t47 t38 t39 t42 t43 t46 t47 (!decide ((List.getD (List.getD m (Int.toNat k_) []) (Int.toNat t47) (0 : Int)) = (1099511627776 : Int))) m)
 none)
 none)
 (zq1iy (fun (n2 : Int) (k_2 : Int) (i_2 : Int) (t382 : Int) (t392 : Int) (t422 : Int) (t432 : Int) (t462 : Int) (t472 : Int) (m2 : List t3y) =>
 rec n2 k_2 i_2 t382 t392 t422 t432 t462 (IntKind.i64.wrap (t472 + (1 : Int))) m2) n k_ i_ t47 t38 t39 t42 t43 t46 t47 false m))
 none)
 none)
 (k1 n k_ t38 t39 t42 t43 m)
def zq1j1 (m : Nat) {β : Type} (k1 : zq1im β) : zq1in β := lp10 (fun r => zq1j0 r k1) none m
theorem zq1j2 {β : Type} (i : Nat) (k1) : zq1j1 (β := β) (i + 1) k1 = zq1j0 (zq1j1 i k1) k1 := rfl
def zq1j3 {β : Type} := hid (zq1j1 (β := β) fuel)
noncomputable def zq1j4 : Pb := ⟨230, zq1io, fun _ => zq1j3, Q1n mixed (X := ⟨look tab, gam zq1i7, true, false, false, false, []⟩) (p := zq1io) Qp zq1i7 rfl [zq1iz] (g := fun i _ => zq1j1 i) (by kernel_rfl) rfl (by kernel_rfl) (fun _ _ => rfl) fun _ _ _ _ => by kernel_rfl⟩
def zq1j5 {β : Type} (rec : zq1ik β) (k1 : zq1ij β) : zq1ik β := fun n k_ t38 t39 t42 t43 m =>
 cond (decide (t43 < t42))
 (zq1j3 (fun (n2 : Int) (k_2 : Int) (t382 : Int) (t392 : Int) (t422 : Int) (t432 : Int) (m2 : List t3y) =>
 rec n2 k_2 t382 t392 t422 (IntKind.i64.wrap (t432 + (1 : Int))) m2) n k_ t43 t38 t39 t42 t43 n (0 : Int) m)
 (k1 n k_ t38 t39 m)
def zq1j6 (m : Nat) {β : Type} (k1 : zq1ij β) : zq1ik β := lp7 (fun r => zq1j5 r k1) none m
theorem zq1j7 {β : Type} (i : Nat) (k1) : zq1j6 (β := β) (i + 1) k1 = zq1j5 (zq1j6 i k1) k1 := rfl
def zq1j8 {β : Type} := hid (zq1j6 (β := β) fuel)
noncomputable def zq1j9 : Pb := ⟨458, zq1il, fun _ => zq1j8, Q1n mixed (X := ⟨look tab, gam zq1i7, true, false, false, false, []⟩) (p := zq1il) Qp zq1i7 rfl [zq1j4] (g := fun i _ => zq1j6 i) (by kernel_rfl) rfl (by kernel_rfl) (fun _ _ => rfl) fun _ _ _ _ => by kernel_rfl⟩
def zq1ja {β : Type} (rec : zq1id β) (k1 : zq1ib β) (k2 : zq1ic β) : zq1id β := fun n t38 t39 m =>
 cond (decide (t39 < t38))
 (zq1j8 (fun (n2 : Int) (k_ : Int) (t382 : Int) (t392 : Int) (m2 : List t3y) =>
 cond (decide (0 ≤ k_) && decide (k_ < (List.length m2 : Int)))
 (cond (decide (0 ≤ k_) && decide (k_ < (List.length (List.getD m2 (Int.toNat k_) []) : Int)))
 (cond (decide ((List.getD (List.getD m2 (Int.toNat k_) []) (Int.toNat k_) (0 : Int)) < (0 : Int)))
 (k1 false ([] : List t3y))
 (rec n2 t382 (IntKind.i64.wrap (t392 + (1 : Int))) m2))
 none)
 none) n t39 t38 t39 n (0 : Int) m)
 (k2 n m)
def zq1jb (m : Nat) {β : Type} (k1 : zq1ib β) (k2 : zq1ic β) : zq1id β := lp4 (fun r => zq1ja r k1 k2) none m
theorem zq1jc {β : Type} (i : Nat) (k1 k2) : zq1jb (β := β) (i + 1) k1 k2 = zq1ja (zq1jb i k1 k2) k1 k2 := rfl
def zq1jd {β : Type} := hid (zq1jb (β := β) fuel)
noncomputable def zq1je : Pb := ⟨250, zq1ie, fun _ => zq1jd, Q1n mixed (X := ⟨look tab, gam zq1i7, true, false, false, false, []⟩) (p := zq1ie) Qp zq1i7 rfl [zq1j9] (g := fun i _ => zq1jb i) (by kernel_rfl) rfl (by kernel_rfl) (fun _ _ => rfl) fun _ _ _ _ => by kernel_rfl⟩
def zq1jf {β : Type} (rec : zq1ih β) (k1 : zq1if β) (k2 : zq1ig β) : zq1ih β := fun t108 t109 m =>
 cond (decide (t109 < t108))
 (cond (decide (0 ≤ t109) && decide (t109 < (List.length m : Int)))
 (cond (decide (0 ≤ t109) && decide (t109 < (List.length (List.getD m (Int.toNat t109) []) : Int)))
 (cond (decide ((List.getD (List.getD m (Int.toNat t109) []) (Int.toNat t109) (0 : Int)) < (0 : Int)))
 (k1 false ([] : List t3y))
 (rec t108 (IntKind.i64.wrap (t109 + (1 : Int))) m))
 none)
 none)
 (k2 m)
def zq1jg (m : Nat) {β : Type} (k1 : zq1if β) (k2 : zq1ig β) : zq1ih β := lp3 (fun r => zq1jf r k1 k2) none m
theorem zq1jh {β : Type} (i : Nat) (k1 k2) : zq1jg (β := β) (i + 1) k1 k2 = zq1jf (zq1jg i k1 k2) k1 k2 := rfl
def zq1ji {β : Type} := hid (zq1jg (β := β) fuel)
noncomputable def zq1jj : Pb := ⟨506, zq1ii, fun _ => zq1ji, Q1n mixed (X := ⟨look tab, gam zq1i7, true, false, false, false, []⟩) (p := zq1ii) Qp zq1i7 rfl [] (g := fun i _ => zq1jg i) (by kernel_rfl) rfl (by kernel_rfl) (fun _ _ => rfl) fun _ _ _ _ => by kernel_rfl⟩
def zq1jk : zq1i6 := fun n l k =>
 zq1g9 n l (fun (rValid : Bool) =>
 cond (!rValid)
 (k ([] : List t3y) false)
 (zqg2 n l (fun (lrdirect : List t3y) =>
 zq1iv (fun (n2 : Int) (m : List t3y) =>
 zq1jd (fun (t5 : Bool) (t4 : List t3y) =>
 k t4 t5) (fun (n3 : Int) (m2 : List t3y) =>
 zq1ji (fun (t5 : Bool) (t4 : List t3y) =>
 k t4 t5) (fun (m3 : List t3y) =>
 k m3 true) n3 (0 : Int) m2) n2 n2 (0 : Int) m) n n (0 : Int) lrdirect)))
def zq1jl : zq1i6 := hid zq1jk
noncomputable def zq1jm : En := ⟨112, .spec (sg [b27y, b33y] [] [b77y, b30y] [] zq1jl), Q7j mixed (X := ⟨look tab, gam zq1i7, true, false, false, false, []⟩) Qp zq1i7 rfl [zq1iw, zq1je, zq1jj] [.tmp 4, .tmp 5] Tryz.func112 (by kernel_rfl) fun _ _ => by kernel_rfl⟩
abbrev zq1jn := {β : Type} → zqi → (Int → Option β) → Option β
def zq1jo : zq1jn := fun z k =>
 zq1gw z (fun (rTransitions : Int) (lrTransitions : List t0y) =>
 k rTransitions)
def zq1jp : zq1jn := hid zq1jo
noncomputable def zq1jq : En := ⟨181, .spec (sg [b61y] [] [b27y] [] zq1jp), pf [zq1gx] [] [.tmp 2] Tryz.func181 (by kernel_rfl) fun _ _ => by kernel_rfl⟩
abbrev zq1jr := {β : Type} → zqi → Int → (Int → Int → Option β) → Option β
def zq1js : zq1jr := fun z t k =>
 zq1gw z (fun (rTransitions : Int) (lrTransitions : List t0y) =>
 cond (!decide (rTransitions = (0 : Int)))
 (k (0 : Int) (8 : Int))
 (zqlo t (0 : Int) (8589934592 : Int) (fun (rin : Bool) =>
 cond (!rin)
 (k (0 : Int) (1 : Int))
 (zqm0 z lrTransitions t (fun (roffset : Int) =>
 k roffset (0 : Int))))))
def zq1jt : zq1jr := hid zq1js
noncomputable def zq1ju : En := ⟨188, .spec (sg [b61y, b27y] [] [b27y, b27y] [] zq1jt), pf [zq1gx, zqlp, zqm1] [] [.tmp 4, .tmp 5] Tryz.func188 (by kernel_rfl) fun _ _ => by kernel_rfl⟩
abbrev zq1jv := {β : Type} → zqi → zqa → (Int → Option β) → Option β
def zq1jw : zq1jv := fun z l k =>
 zq1jp z (fun (rCheck : Int) =>
 cond (!decide (rCheck = (0 : Int)))
 (k (8 : Int))
 (cond (decide (l.2.2.1.1 < (1 : Int)))
 (k (8 : Int))
 (cond (decide ((100000 : Int) < l.2.2.1.1))
 (k (8 : Int))
 (cond (decide (l.2.2.1.2 < (0 : Int)))
 (k (8 : Int))
 (cond (decide ((86400 : Int) ≤ l.2.2.1.2))
 (k (8 : Int))
 (cond (decide (l.2.2.2.1 < (0 : Int)))
 (k (8 : Int))
 (cond (decide ((2 : Int) < l.2.2.2.1))
 (k (8 : Int))
 (cond (decide (l.2.2.2.2.1 < (1 : Int)))
 (k (8 : Int))
 (cond (decide ((400 : Int) < l.2.2.2.2.1))
 (k (8 : Int))
 (cond (decide ((List.length l.2.2.2.2.2.1 : Int) = (0 : Int)))
 (k (8 : Int))
 (k (0 : Int))))))))))))
def zq1jx : zq1jv := hid zq1jw
noncomputable def zq1jy : En := ⟨204, .spec (sg [b61y, b80y] [] [b27y] [] zq1jx), pf [zq1jq] [] [.tmp 4] Tryz.func204 (by kernel_rfl) fun _ _ => by kernel_rfl⟩
abbrev zq1jz := {β : Type} → zqo → (t14y → Bool → Option β) → Option β
def zq1k0 : zq1jz := fun r_ k =>
 zq1es r_ (fun (rConstraints : Bool) (lrConstraints : List t2y) =>
 cond (!rConstraints)
 (k ([] : List t3y) false)
 (zq1jl (IntKind.i64.wrap ((List.length r_.2.2.1 : Int) + (1 : Int))) lrConstraints (fun (rClose : List t3y) (rClose2 : Bool) =>
 k rClose rClose2)))
def zq1k1 : zq1jz := hid zq1k0
noncomputable def zq1k2 : En := ⟨91, .spec (sg [b49y] [] [b77y, b30y] [] zq1k1), pf [zq1jm, zq1et] [] [.tmp 2, .tmp 3] Tryz.func91 (by kernel_rfl) fun _ _ => by kernel_rfl⟩
abbrev zq1k3 := {β : Type} → zqo → Int → Int → (t14y → Bool → Option β) → Option β
def zq1k4 : zq1k3 := fun r_ a b k =>
 zq1k1 r_ (fun (rclosed : List t3y) (rclosed2 : Bool) =>
 cond rclosed2
 (zqfa a (0 : Int) (IntKind.i64.wrap ((List.length r_.2.2.1 : Int) - (1 : Int))) (fun (rin : Bool) =>
 cond rin
 (zqfa b (0 : Int) (IntKind.i64.wrap ((List.length r_.2.2.1 : Int) - (1 : Int))) (fun (rin2 : Bool) =>
 k rclosed rin2))
 (k rclosed false)))
 (k rclosed false))
def zq1k5 : zq1k3 := hid zq1k4
noncomputable def zq1k6 : En := ⟨92, .spec (sg [b49y, b27y, b27y] [] [b77y, b30y] [] zq1k5), pf [zq1k2, zqfb] [] [.tmp 6, .tmp 7] Tryz.func92 (by kernel_rfl) fun _ _ => by kernel_rfl⟩
abbrev zq1k7 := {β : Type} → zqm → (Int → Option β) → Option β
noncomputable def zq1k8 : List En := [zq1jq, zqko, zq174]
abbrev zq1k9 (β : Type) := Int → Option β
abbrev zq1ka (β : Type) := Unit → Option β
abbrev zq1kb (β : Type) := Int → zqm → t26y → Option β
noncomputable def zq1kc : Pc := ⟨44, 0, Q1 58 (Q2 Tryz.f169), ⟨0, [1, 3, 4], [b29y, b45y, b27y], [b40y, .row 9 .str]⟩, [(.ret, ⟨0, [2], [b27y], []⟩), (.exit 0, ⟨0, [], [], []⟩)]⟩
def zq1kd {β : Type} (rec : zq1kb β) (k1 : zq1k9 β) (k2 : zq1ka β) : zq1kb β := fun i_ c l =>
 cond (decide (i_ < (List.length c.1 : Int)))
 (cond (decide (0 ≤ i_) && decide (i_ < (List.length c.1 : Int)))
 (let e : zqi := List.getD c.1 (Int.toNat i_) (([] : List UInt8), ((0 : Int), ([] : List zqg)));
 let l2 : List t7y := ([e.1] : List t7y);
 cond (decide ((List.length l + List.length l2) * 16 ≤ Q5))
 (let l3 : List t7y := (l ++ l2);
 zq173 l3 i_ (fun (rname : Int) =>
 cond (!decide (rname = (0 : Int)))
 (k1 rname)
 (cond (decide (0 ≤ i_) && decide (i_ < (List.length c.1 : Int)))
 (let e2 : zqi := List.getD c.1 (Int.toNat i_) (([] : List UInt8), ((0 : Int), ([] : List zqg)));
 zq1jp e2 (fun (rCheck : Int) =>
 cond (!decide (rCheck = (0 : Int)))
 (k1 (8 : Int))
 (cond (decide (0 ≤ i_) && decide (i_ < (List.length c.1 : Int)))
 (let e3 : zqi := List.getD c.1 (Int.toNat i_) (([] : List UInt8), ((0 : Int), ([] : List zqg)));
 zqkn e3 (fun (rminutes : Bool) =>
 cond (!rminutes)
 (k1 (8 : Int))
 (let i_2 : Int := (IntKind.i64.wrap (i_ + (1 : Int)));
 rec i_2 c l3)))
 none)))
 none)))
 none)
 none)
 (k2 ())
def zq1ke (m : Nat) {β : Type} (k1 : zq1k9 β) (k2 : zq1ka β) : zq1kb β := lp3 (fun r => zq1kd r k1 k2) none m
theorem zq1kf {β : Type} (i : Nat) (k1 k2) : zq1ke (β := β) (i + 1) k1 k2 = zq1kd (zq1ke i k1 k2) k1 k2 := rfl
def zq1kg {β : Type} := hid (zq1ke (β := β) fuel)
noncomputable def zq1kh : Pb := ⟨58, zq1kc, fun _ => zq1kg, pl (p := zq1kc) zq1k8 [] (g := fun i _ => zq1ke i) (by kernel_rfl) rfl (by kernel_rfl) (fun _ _ => rfl) fun _ _ _ _ => by kernel_rfl⟩
def zq1ki : zq1k7 := fun c k =>
 zq1kg (fun (t2 : Int) =>
 k t2) (fun (_ : Unit) =>
 k (0 : Int)) (0 : Int) c ([] : List t7y)
def zq1kj : zq1k7 := hid zq1ki
noncomputable def zq1kk : En := ⟨169, .spec (sg [b47y] [] [b27y] [] zq1kj), pf zq1k8 [zq1kh] [.tmp 2] Tryz.func169 (by kernel_rfl) fun _ _ => by kernel_rfl⟩
abbrev zq1kl := {β : Type} → zqi → Int → (t0y → Int → Option β) → Option β
def zq1km : zq1kl := fun z t k =>
 zq1jt z t (fun (rOffsetAt : Int) (rOffsetAt2 : Int) =>
 cond (!decide (rOffsetAt2 = (0 : Int)))
 (k ((0 : Int), (0 : Int)) rOffsetAt2)
 (zqkz t rOffsetAt (fun (rlocal : t0y) =>
 k rlocal (0 : Int))))
def zq1kn : zq1kl := hid zq1km
noncomputable def zq1ko : En := ⟨173, .spec (sg [b61y, b27y] [] [b35y, b27y] [] zq1kn), pf [zq1ju, zql0] [] [.cell 4 102, .tmp 5] Tryz.func173 (by kernel_rfl) fun _ _ => by kernel_rfl⟩
abbrev zq1kp := {β : Type} → zqi → zqa → Int → (Int → Option β) → Option β
noncomputable def zq1kq : List En := [zq1hp, zq1ko, zq1i0]
abbrev zq1kr (β : Type) := Int → Option β
abbrev zq1ks (β : Type) := Int → Int → zqi → zqa → Option β
noncomputable def zq1kt : Pc := ⟨81, 0, Q1 1018 (Q2 Tryz.f205), ⟨0, [2, 3, 4, 7], [b27y, b29y, b34y, b27y], [b65y, b55y]⟩, [(.exit 0, ⟨0, [7], [b27y], []⟩)]⟩
abbrev zq1ku (β : Type) := Int → Option β
abbrev zq1kv (β : Type) := Int → Int → zqi → zqa → t0y → Option β
noncomputable def zq1kw : Pc := ⟨81, 0, Q1 127 (Q2 Tryz.f205), ⟨0, [2, 3, 4, 10, 12], [b27y, b29y, b34y, b37y, b27y], [b65y, b55y, b59y]⟩, [(.ret, ⟨0, [6], [b27y], []⟩)]⟩
abbrev zq1kx (β : Type) := Int → Option β
abbrev zq1ky (β : Type) := Int → Int → Int → Bool → zqa → Option β
noncomputable def zq1kz : Pc := ⟨81, 0, Q1 467 (Q2 Tryz.f205), ⟨0, [2, 4, 7, 8, 31], [b27y, b29y, b27y, b27y, b30y], [b55y]⟩, [(.normal, ⟨0, [7], [b27y], []⟩)]⟩
def zq1l0 {β : Type} (rec : zq1ks β) (k1 : zq1kr β) : zq1ks β := fun t k_ z l =>
 cond (decide ((0 : Int) ≤ k_))
 (zq1hz z l k_ (fun (rhandover : Int) (rhandover2 : Bool) =>
 cond rhandover2
 (cond (decide (rhandover ≤ t))
 (k1 k_)
 (let k_2 : Int := (IntKind.i64.wrap (k_ - (1 : Int)));
 rec t k_2 z l))
 (let k_2 : Int := (IntKind.i64.wrap (k_ - (1 : Int)));
 rec t k_2 z l)))
 (k1 k_)
def zq1l1 (m : Nat) {β : Type} (k1 : zq1kr β) : zq1ks β := lp4 (fun r => zq1l0 r k1) none m
theorem zq1l2 {β : Type} (i : Nat) (k1) : zq1l1 (β := β) (i + 1) k1 = zq1l0 (zq1l1 i k1) k1 := rfl
def zq1l3 {β : Type} := hid (zq1l1 (β := β) fuel)
noncomputable def zq1l4 : Pb := ⟨1018, zq1kt, fun _ => zq1l3, pl (p := zq1kt) zq1kq [] (g := fun i _ => zq1l1 i) (by kernel_rfl) rfl (by kernel_rfl) (fun _ _ => rfl) fun _ _ _ _ => by kernel_rfl⟩
def zq1l5 {β : Type} (k1 : zq1ku β) : zq1kv β := fun t n z l now =>
 cond (!decide (n = 0))
 (let k_ : Int := (IntKind.i64.wrap (Int.tdiv (if (0 : Int) > (IntKind.i64.wrap ((IntKind.i64.wrap (now.1 + (2 : Int))) - l.2.2.1.1)) then (0 : Int) else (IntKind.i64.wrap ((IntKind.i64.wrap (now.1 + (2 : Int))) - l.2.2.1.1))) n));
 zq1l3 (fun (k_2 : Int) =>
 k1 k_2) t k_ z l)
 none
def zq1l6 {β : Type} := hid (zq1l5 (β := β))
noncomputable def zq1l7 : Pb := ⟨127, zq1kw, fun _ => zq1l6, pe (p := zq1kw) zq1kq [zq1l4] 127 (g := fun _ => zq1l5) (by kernel_rfl) fun _ _ => by kernel_rfl⟩
def zq1l8 {β : Type} (k1 : zq1kx β) : zq1ky β := fun t k_ first t31 l =>
 cond t31
 (cond (!decide ((IntKind.i64.wrap ((3600 : Int) * l.2.2.2.2.1)) = 0))
 (let k_2 : Int := (IntKind.i64.wrap (Int.tdiv (IntKind.i64.wrap (t - first)) (IntKind.i64.wrap ((3600 : Int) * l.2.2.2.2.1))));
 k1 k_2)
 none)
 (k1 k_)
def zq1l9 {β : Type} := hid (zq1l8 (β := β))
noncomputable def zq1la : Pb := ⟨467, zq1kz, fun _ => zq1l9, pe (p := zq1kz) zq1kq [] 467 (g := fun _ => zq1l8) (by kernel_rfl) fun _ _ => by kernel_rfl⟩
def zq1lb : zq1kp := fun z l t k =>
 cond (decide (l.2.2.2.1 = (0 : Int)))
 (zq1ho z l.2.2.1 (fun (rFirst : Int) (rFirst2 : Int) =>
 cond (decide (rFirst2 = (0 : Int)))
 (zq1l9 (fun (k_ : Int) =>
 k k_) t (-1 : Int) rFirst (decide (rFirst ≤ t)) l)
 (zq1l9 (fun (k_ : Int) =>
 k k_) t (-1 : Int) rFirst false l)))
 (zq1kn z t (fun (rToLocal : t0y) (rToLocal2 : Int) =>
 cond (decide (l.2.2.2.1 = (2 : Int)))
 (let n : Int := (IntKind.i64.wrap (l.2.2.2.2.1 * (7 : Int)));
 zq1l6 (fun (t6 : Int) =>
 k t6) t n z l rToLocal)
 (zq1l6 (fun (t6 : Int) =>
 k t6) t l.2.2.2.2.1 z l rToLocal)))
def zq1lc : zq1kp := hid zq1lb
noncomputable def zq1ld : En := ⟨205, .spec (sg [b61y, b80y, b27y] [] [b27y] [] zq1lc), pf zq1kq [zq1l7, zq1la] [.tmp 6] Tryz.func205 (by kernel_rfl) fun _ _ => by kernel_rfl⟩
abbrev zq1le := {β : Type} → zqo → (Bool → Option β) → Option β
def zq1lf : zq1le := fun r_ k =>
 zq1k1 r_ (fun (rclosed : List t3y) (rclosed2 : Bool) =>
 k rclosed2)
def zq1lg : zq1le := hid zq1lf
noncomputable def zq1lh : En := ⟨50, .spec (sg [b49y] [] [b30y] [] zq1lg), pf [zq1k2] [] [.tmp 2] Tryz.func50 (by kernel_rfl) fun _ _ => by kernel_rfl⟩
abbrev zq1li := {β : Type} → zqo → Int → Int → (t0y → Bool → Option β) → Option β
def zq1lj : zq1li := fun r_ a b k =>
 zq1k5 r_ a b (fun (rboth : List t3y) (rboth2 : Bool) =>
 cond (!rboth2)
 (k ((0 : Int), (0 : Int)) false)
 (cond (decide (0 ≤ (IntKind.i64.wrap (b + (1 : Int)))) && decide ((IntKind.i64.wrap (b + (1 : Int))) < (List.length rboth : Int)))
 (let e : List Int := List.getD rboth (Int.toNat (IntKind.i64.wrap (b + (1 : Int)))) ([] : List Int);
 cond (decide (0 ≤ (IntKind.i64.wrap (a + (1 : Int)))) && decide ((IntKind.i64.wrap (a + (1 : Int))) < (List.length e : Int)))
 (let e2 : Int := List.getD e (Int.toNat (IntKind.i64.wrap (a + (1 : Int)))) (0 : Int);
 cond (decide (0 ≤ (IntKind.i64.wrap (a + (1 : Int)))) && decide ((IntKind.i64.wrap (a + (1 : Int))) < (List.length rboth : Int)))
 (let e3 : List Int := List.getD rboth (Int.toNat (IntKind.i64.wrap (a + (1 : Int)))) ([] : List Int);
 cond (decide (0 ≤ (IntKind.i64.wrap (b + (1 : Int)))) && decide ((IntKind.i64.wrap (b + (1 : Int))) < (List.length e3 : Int)))
 (let e4 : Int := List.getD e3 (Int.toNat (IntKind.i64.wrap (b + (1 : Int)))) (0 : Int);
 k ((IntKind.i64.wrap (0 - e2)), e4) true)
 none)
 none)
 none)
 none))
def zq1lk : zq1li := hid zq1lj
noncomputable def zq1ll : En := ⟨51, .spec (sg [b49y, b27y, b27y] [] [b35y, b30y] [] zq1lk), pf [zq1k6] [] [.cell 6 57, .tmp 7] Tryz.func51 (by kernel_rfl) fun _ _ => by kernel_rfl⟩
abbrev zq1lm := {β : Type} → zqm → (Int → Option β) → Option β
def zq1ln : zq1lm := fun c k =>
 cond (decide ((16 : Int) < (List.length c.1 : Int)))
 (k (5 : Int))
 (cond (decide ((32 : Int) < (List.length c.2.1 : Int)))
 (k (5 : Int))
 (cond (decide ((8 : Int) < (List.length c.2.2.1 : Int)))
 (k (5 : Int))
 (cond (decide ((12 : Int) < (List.length c.2.2.2 : Int)))
 (k (5 : Int))
 (zq1kj c (fun (rzones : Int) =>
 cond (!decide (rzones = (0 : Int)))
 (k rzones)
 (zq1aj c (fun (rpeople : Int) =>
 cond (!decide (rpeople = (0 : Int)))
 (k rpeople)
 (zq1bf c (fun (rcalendars : Int) =>
 cond (!decide (rcalendars = (0 : Int)))
 (k rcalendars)
 (zq1cb c (fun (rschedules : Int) =>
 k rschedules)))))))))))
def zq1lo : zq1lm := hid zq1ln
noncomputable def zq1lp : En := ⟨143, .spec (sg [b47y] [] [b27y] [] zq1lo), pf [zq1bg, zq1ak, zq1cc, zq1kk] [] [.tmp 2] Tryz.func143 (by kernel_rfl) fun _ _ => by kernel_rfl⟩
abbrev zq1lq := {β : Type} → zqi → Int → (Int → Int → Option β) → Option β
def zq1lr : zq1lq := fun z t k =>
 zq1kn z t (fun (rToLocal : t0y) (rToLocal2 : Int) =>
 cond (!decide (rToLocal2 = (0 : Int)))
 (k (0 : Int) rToLocal2)
 (zqvq rToLocal (fun (rsecond : Int) =>
 k rsecond (0 : Int))))
def zq1ls : zq1lq := hid zq1lr
noncomputable def zq1lt : En := ⟨145, .spec (sg [b61y, b27y] [] [b27y, b27y] [] zq1ls), pf [zq1ko, zqvr] [] [.tmp 4, .tmp 5] Tryz.func145 (by kernel_rfl) fun _ _ => by kernel_rfl⟩
abbrev zq1lu := {β : Type} → zqm → Int → Int → (Bool → Option β) → Option β
def zq1lv : zq1lu := fun c schedule t k =>
 cond (decide ((0 : Int) ≤ schedule))
 (cond (decide (schedule < (List.length c.2.2.2 : Int)))
 (cond (decide ((0 : Int) ≤ t))
 (cond (decide (t ≤ (8589934592 : Int)))
 (zq1lo c (fun (rCheck : Int) =>
 let t2 : Bool := (decide (rCheck = (0 : Int)));
 k t2))
 (k false))
 (k false))
 (k false))
 (k false)
def zq1lw : zq1lu := hid zq1lv
noncomputable def zq1lx : En := ⟨167, .spec (sg [b47y, b27y, b27y] [] [b30y] [] zq1lw), pf [zq1lp] [] [.tmp 6] Tryz.func167 (by kernel_rfl) fun _ _ => by kernel_rfl⟩
abbrev zq1ly := {β : Type} → zqi → zqa → Int → (Int → Int → Option β) → Option β
def zq1lz : zq1ly := fun z l t k =>
 zq1jx z l (fun (rCheck : Int) =>
 cond (!decide (rCheck = (0 : Int)))
 (k (0 : Int) (8 : Int))
 (cond (decide (t < (0 : Int)))
 (k (0 : Int) (1 : Int))
 (cond (decide ((8589934592 : Int) < t))
 (k (0 : Int) (1 : Int))
 (zq1lc z l t (fun (rshift : Int) =>
 k rshift (0 : Int))))))
def zq1m0 : zq1ly := hid zq1lz
noncomputable def zq1m1 : En := ⟨202, .spec (sg [b61y, b80y, b27y] [] [b27y, b27y] [] zq1m0), pf [zq1jy, zq1ld] [] [.tmp 6, .tmp 7] Tryz.func202 (by kernel_rfl) fun _ _ => by kernel_rfl⟩
abbrev zq1m2 := {β : Type} → zqo → Int → Int → (t0y → Int → Option β) → Option β
def zq1m3 : zq1m2 := fun r_ a b k =>
 zq1lg r_ (fun (rConsistent : Bool) =>
 cond (!rConsistent)
 (k ((0 : Int), (0 : Int)) (8 : Int))
 (zq1lk r_ a b (fun (rGap : t0y) (rGap2 : Bool) =>
 cond (!rGap2)
 (k ((0 : Int), (0 : Int)) (3 : Int))
 (cond (decide (rGap.2 < (0 : Int)))
 (k ((0 : Int), (0 : Int)) (6 : Int))
 (k ((if (0 : Int) > rGap.1 then (0 : Int) else rGap.1), rGap.2) (0 : Int))))))
def zq1m4 : zq1m2 := hid zq1m3
noncomputable def zq1m5 : En := ⟨16, .spec (sg [b49y, b27y, b27y] [] [b35y, b27y] [] zq1m4), pf [zq1lh, zq1ll] [] [.cell 6 57, .tmp 7] Tryz.func16 (by kernel_rfl) fun _ _ => by kernel_rfl⟩
abbrev zq1m6 := {β : Type} → zqm → Int → Int → Int → (Int → Option β) → Option β
noncomputable def zq1m7 : List En := [zqhu, zq1lp]
abbrev zq1m8 (β : Type) := Int → Option β
abbrev zq1m9 (β : Type) := Unit → Option β
abbrev zq1ma (β : Type) := Int → Int → Bool → Option β
noncomputable def zq1mb : Pc := ⟨28, 0, Q1 103 (Q2 Tryz.f120), ⟨0, [2, 3, 13], [b27y, b27y, b30y], []⟩, [(.ret, ⟨0, [8], [b27y], []⟩), (.normal, ⟨0, [], [], []⟩)]⟩
def zq1mc {β : Type} (k1 : zq1m8 β) (k2 : zq1m9 β) : zq1ma β := fun from_ to_ t13 =>
 cond t13
 (k1 (3 : Int))
 (zqht from_ to_ (fun (rRange : Bool) =>
 cond (!rRange)
 (k1 (1 : Int))
 (k2 ())))
def zq1md {β : Type} := hid (zq1mc (β := β))
noncomputable def zq1me : Pb := ⟨103, zq1mb, fun _ => zq1md, pe (p := zq1mb) zq1m7 [] 103 (g := fun _ => zq1mc) (by kernel_rfl) fun _ _ => by kernel_rfl⟩
def zq1mf : zq1m6 := fun c person from_ to_ k =>
 zq1lo c (fun (rCheck : Int) =>
 let t : Bool := (!decide (rCheck = (0 : Int)));
 cond t
 (k (8 : Int))
 (cond (decide (person < (0 : Int)))
 (zq1md (fun (t8 : Int) =>
 k t8) (fun (_ : Unit) =>
 k (0 : Int)) from_ to_ true)
 (let t2 : Bool := (decide ((List.length c.2.1 : Int) ≤ person));
 zq1md (fun (t8 : Int) =>
 k t8) (fun (_ : Unit) =>
 k (0 : Int)) from_ to_ t2)))
def zq1mg : zq1m6 := hid zq1mf
noncomputable def zq1mh : En := ⟨120, .spec (sg [b47y, b27y, b27y, b27y] [] [b27y] [] zq1mg), pf zq1m7 [zq1me] [.tmp 8] Tryz.func120 (by kernel_rfl) fun _ _ => by kernel_rfl⟩
abbrev zq1mi := {β : Type} → zqi → t10y → Int → (Bool → Option β) → Option β
def zq1mj : zq1mi := fun z l t k =>
 zq1ls z t (fun (rSecond : Int) (rSecond2 : Int) =>
 cond (decide (rSecond2 = (0 : Int)))
 (zqi6 l (fun (rCheck : Int) =>
 cond (decide (rCheck = (0 : Int)))
 (zqij l rSecond (fun (rWithin : Bool) =>
 k rWithin))
 (k false)))
 (k false))
def zq1mk : zq1mi := hid zq1mj
noncomputable def zq1ml : En := ⟨121, .spec (sg [b61y, b31y, b27y] [] [b30y] [] zq1mk), pf [zqi7, zq1lt, zqik] [] [.tmp 6] Tryz.func121 (by kernel_rfl) fun _ _ => by kernel_rfl⟩
abbrev zq1mm := {β : Type} → zqm → zqa → Int → (Int → Bool → Option β) → Option β
noncomputable def zq1mn : List En := [zq1ko, zq1ml, zq1m1]
abbrev zq1mo (β : Type) := Int → Bool → zqa → Option β
abbrev zq1mp (β : Type) := Int → Bool → Int → zqa → zq6 → t0y → Option β
noncomputable def zq1mq : Pc := ⟨94, 0, Q1 4090 (Q2 Tryz.f198), ⟨0, [4, 9, 11, 12, 14, 15], [b29y, b27y, b34y, b37y, b30y, b27y], [b55y, b84y, b59y]⟩, [(.exit 0, ⟨0, [4, 9, 14], [b29y, b27y, b30y], [b55y]⟩)]⟩
abbrev zq1mr (β : Type) := Int → Bool → Option β
abbrev zq1ms (β : Type) := Int → Int → zqm → zqa → Option β
noncomputable def zq1mt : Pc := ⟨94, 0, Q1 31 (Q2 Tryz.f198), ⟨0, [2, 3, 4, 9], [b27y, b29y, b34y, b27y], [b40y, b55y]⟩, [(.ret, ⟨0, [6, 7], [b27y, b30y], []⟩)]⟩
def zq1mu {β : Type} (rec : zq1mp β) (k1 : zq1mo β) : zq1mp β := fun k_ there i_ l x at_ =>
 cond (decide (i_ < (List.length x.2.2 : Int)))
 (cond there
 (let i_2 : Int := (IntKind.i64.wrap (i_ + (1 : Int)));
 rec k_ true i_2 l x at_)
 (cond (decide (0 ≤ i_) && decide (i_ < (List.length x.2.2 : Int)))
 (let e : Int := List.getD x.2.2 (Int.toNat i_) (0 : Int);
 let i_2 : Int := (IntKind.i64.wrap (i_ + (1 : Int)));
 rec k_ (decide (e = at_.1)) i_2 l x at_)
 none))
 (k1 k_ there l)
def zq1mv (m : Nat) {β : Type} (k1 : zq1mo β) : zq1mp β := lp6 (fun r => zq1mu r k1) none m
theorem zq1mw {β : Type} (i : Nat) (k1) : zq1mv (β := β) (i + 1) k1 = zq1mu (zq1mv i k1) k1 := rfl
def zq1mx {β : Type} := hid (zq1mv (β := β) fuel)
noncomputable def zq1my : Pb := ⟨4090, zq1mq, fun _ => zq1mx, pl (p := zq1mq) zq1mn [] (g := fun i _ => zq1mv i) (by kernel_rfl) rfl (by kernel_rfl) (fun _ _ => rfl) fun _ _ _ _ => by kernel_rfl⟩
def zq1mz {β : Type} (k1 : zq1mr β) : zq1ms β := fun t k_ c l =>
 cond (decide (l.2.2.2.2.2.2.2.2 = (0 : Int)))
 (k1 k_ true)
 (cond (decide (0 ≤ l.2.2.2.2.2.2.2.1) && decide (l.2.2.2.2.2.2.2.1 < (List.length c.2.2.1 : Int)))
 (let e : zq6 := List.getD c.2.2.1 (Int.toNat l.2.2.2.2.2.2.2.1) (([] : List UInt8), ((0 : Int), ([] : List Int)));
 cond (decide (0 ≤ e.2.1) && decide (e.2.1 < (List.length c.1 : Int)))
 (let e2 : zqi := List.getD c.1 (Int.toNat e.2.1) (([] : List UInt8), ((0 : Int), ([] : List zqg)));
 zq1kn e2 t (fun (rToLocal : t0y) (rToLocal2 : Int) =>
 zq1mx (fun (k_2 : Int) (there : Bool) (l2 : zqa) =>
 let t2 : Bool := (there == (decide (l2.2.2.2.2.2.2.2.2 = (2 : Int))));
 k1 k_2 t2) k_ false (0 : Int) l e rToLocal))
 none)
 none)
def zq1n0 {β : Type} := hid (zq1mz (β := β))
noncomputable def zq1n1 : Pb := ⟨31, zq1mt, fun _ => zq1n0, pe (p := zq1mt) zq1mn [zq1my] 31 (g := fun _ => zq1mz) (by kernel_rfl) fun _ _ => by kernel_rfl⟩
def zq1n2 : zq1mm := fun c l t k =>
 cond (decide (0 ≤ l.2.1) && decide (l.2.1 < (List.length c.1 : Int)))
 (let e : zqi := List.getD c.1 (Int.toNat l.2.1) (([] : List UInt8), ((0 : Int), ([] : List zqg)));
 zq1m0 e l t (fun (rShift : Int) (rShift2 : Int) =>
 cond (!decide (rShift2 = (0 : Int)))
 (k (0 : Int) false)
 (cond (decide (rShift < (0 : Int)))
 (k (0 : Int) false)
 (cond (decide ((0 : Int) < (List.length l.2.2.2.2.2.2.1 : Int)))
 (zq1mk e l.2.2.2.2.2.2.1 t (fun (rIn : Bool) =>
 cond (!rIn)
 (k (0 : Int) false)
 (zq1n0 (fun (t6 : Int) (t7 : Bool) =>
 k t6 t7) t rShift c l)))
 (zq1n0 (fun (t6 : Int) (t7 : Bool) =>
 k t6 t7) t rShift c l)))))
 none
def zq1n3 : zq1mm := hid zq1n2
noncomputable def zq1n4 : En := ⟨198, .spec (sg [b47y, b80y, b27y] [] [b27y, b30y] [] zq1n3), pf zq1mn [zq1n1] [.tmp 6, .tmp 7] Tryz.func198 (by kernel_rfl) fun _ _ => by kernel_rfl⟩
abbrev zq1n5 := {β : Type} → zqm → Int → Int → Bool → (Bool → Option β) → Option β
def zq1n6 : zq1n5 := fun c person at_ urgent k =>
 zq1mg c person at_ at_ (fun (rWrong : Int) =>
 cond (!decide (rWrong = (0 : Int)))
 (k false)
 (cond (decide (0 ≤ person) && decide (person < (List.length c.2.1 : Int)))
 (let e : zqk := List.getD c.2.1 (Int.toNat person) (([] : List UInt8), ((0 : Int), (([] : List t0y), ((0 : Int), ((0 : Int), false)))));
 cond (decide (0 ≤ e.2.1) && decide (e.2.1 < (List.length c.1 : Int)))
 (let e2 : zqi := List.getD c.1 (Int.toNat e.2.1) (([] : List UInt8), ((0 : Int), ([] : List zqg)));
 zq1mk e2 e.2.2.1 at_ (fun (rIn : Bool) =>
 cond (!rIn)
 (k true)
 (cond urgent
 (k e.2.2.2.2.2)
 (k false))))
 none)
 none))
def zq1n7 : zq1n5 := hid zq1n6
noncomputable def zq1n8 : En := ⟨109, .spec (sg [b47y, b27y, b27y, b30y] [] [b30y] [] zq1n7), pf [zq1ml, zq1mh] [] [.tmp 8] Tryz.func109 (by kernel_rfl) fun _ _ => by kernel_rfl⟩
abbrev zq1n9 := {β : Type} → zqm → zqa → Int → (Int → Option β) → Option β
def zq1na : zq1n9 := fun c l t k =>
 zq1n3 c l t (fun (rlook : Int) (rlook2 : Bool) =>
 cond (!rlook2)
 (k (-1 : Int))
 (cond (!decide ((List.length l.2.2.2.2.2.1 : Int) = 0))
 (cond (decide (0 ≤ (Int.tmod rlook (List.length l.2.2.2.2.2.1 : Int))) && decide ((Int.tmod rlook (List.length l.2.2.2.2.2.1 : Int)) < (List.length l.2.2.2.2.2.1 : Int)))
 (let e : Int := List.getD l.2.2.2.2.2.1 (Int.toNat (Int.tmod rlook (List.length l.2.2.2.2.2.1 : Int))) (0 : Int);
 k e)
 none)
 none))
def zq1nb : zq1n9 := hid zq1na
noncomputable def zq1nc : En := ⟨191, .spec (sg [b47y, b80y, b27y] [] [b27y] [] zq1nb), pf [zq1n4] [] [.tmp 6] Tryz.func191 (by kernel_rfl) fun _ _ => by kernel_rfl⟩
abbrev zq1nd := {β : Type} → zqm → Int → Int → (Int → Int → Option β) → Option β
noncomputable def zq1ne : List En := [zq1nc, zqlh]
abbrev zq1nf (β : Type) := Int → Int → Option β
abbrev zq1ng (β : Type) := Unit → Option β
abbrev zq1nh (β : Type) := Int → Int → zqm → zqe → Option β
noncomputable def zq1ni : Pc := ⟨43, 0, Q1 58 (Q2 Tryz.f178), ⟨0, [2, 3, 8, 9], [b27y, b29y, b34y, b27y], [b40y, b82y]⟩, [(.ret, ⟨0, [6, 7], [b27y, b27y], []⟩), (.exit 0, ⟨0, [], [], []⟩)]⟩
def zq1nj {β : Type} (rec : zq1nh β) (k1 : zq1nf β) (k2 : zq1ng β) : zq1nh β := fun t i_ c s =>
 cond (decide ((0 : Int) ≤ i_))
 (cond (decide (0 ≤ i_) && decide (i_ < (List.length s.2.1 : Int)))
 (let e : zqa := List.getD s.2.1 (Int.toNat i_) (([] : List UInt8), ((0 : Int), (((0 : Int), (0 : Int)), ((0 : Int), ((0 : Int), (([] : List Int), (([] : List t0y), ((0 : Int), (0 : Int)))))))));
 zq1nb c e t (fun (rRaw : Int) =>
 cond (decide ((0 : Int) ≤ rRaw))
 (zqlg s rRaw t (fun (rAway : Bool) =>
 cond (!rAway)
 (k1 i_ rRaw)
 (let i_2 : Int := (IntKind.i64.wrap (i_ - (1 : Int)));
 rec t i_2 c s)))
 (let i_2 : Int := (IntKind.i64.wrap (i_ - (1 : Int)));
 rec t i_2 c s)))
 none)
 (k2 ())
def zq1nk (m : Nat) {β : Type} (k1 : zq1nf β) (k2 : zq1ng β) : zq1nh β := lp4 (fun r => zq1nj r k1 k2) none m
theorem zq1nl {β : Type} (i : Nat) (k1 k2) : zq1nk (β := β) (i + 1) k1 k2 = zq1nj (zq1nk i k1 k2) k1 k2 := rfl
def zq1nm {β : Type} := hid (zq1nk (β := β) fuel)
noncomputable def zq1nn : Pb := ⟨58, zq1ni, fun _ => zq1nm, pl (p := zq1ni) zq1ne [] (g := fun i _ => zq1nk i) (by kernel_rfl) rfl (by kernel_rfl) (fun _ _ => rfl) fun _ _ _ _ => by kernel_rfl⟩
def zq1no : zq1nd := fun c schedule t k =>
 cond (decide (0 ≤ schedule) && decide (schedule < (List.length c.2.2.2 : Int)))
 (let e : zqe := List.getD c.2.2.2 (Int.toNat schedule) (([] : List UInt8), (([] : List zqa), ([] : List t8y)));
 let i_ : Int := (IntKind.i64.wrap ((List.length e.2.1 : Int) - (1 : Int)));
 zq1nm (fun (t6 : Int) (t7 : Int) =>
 k t6 t7) (fun (_ : Unit) =>
 k (-1 : Int) (-1 : Int)) t i_ c e)
 none
def zq1np : zq1nd := hid zq1no
noncomputable def zq1nq : En := ⟨178, .spec (sg [b47y, b27y, b27y] [] [b27y, b27y] [] zq1np), pf zq1ne [zq1nn] [.tmp 6, .tmp 7] Tryz.func178 (by kernel_rfl) fun _ _ => by kernel_rfl⟩
abbrev zq1nr := {β : Type} → zqm → Int → Int → (Int → Option β) → Option β
def zq1ns : zq1nr := fun c schedule t k =>
 zq1np c schedule t (fun (rTop : Int) (rTop2 : Int) =>
 cond (decide (0 ≤ schedule) && decide (schedule < (List.length c.2.2.2 : Int)))
 (let e : zqe := List.getD c.2.2.2 (Int.toNat schedule) (([] : List UInt8), (([] : List zqa), ([] : List t8y)));
 zqkb e.2.2 rTop2 t (fun (rFold : Int) =>
 k rFold))
 none)
def zq1nt : zq1nr := hid zq1ns
noncomputable def zq1nu : En := ⟨168, .spec (sg [b47y, b27y, b27y] [] [b27y] [] zq1nt), pf [zq1nq, zqkc] [] [.tmp 6] Tryz.func168 (by kernel_rfl) fun _ _ => by kernel_rfl⟩
abbrev zq1nv := {β : Type} → zqm → Int → Int → (Int → Option β) → Option β
def zq1nw : zq1nv := fun c schedule t k =>
 zq1lw c schedule t (fun (rOk : Bool) =>
 cond (!rOk)
 (k (-1 : Int))
 (zq1nt c schedule t (fun (rRaw : Int) =>
 k rRaw)))
def zq1nx : zq1nv := hid zq1nw
noncomputable def zq1ny : En := ⟨142, .spec (sg [b47y, b27y, b27y] [] [b27y] [] zq1nx), pf [zq1lx, zq1nu] [] [.tmp 6] Tryz.func142 (by kernel_rfl) fun _ _ => by kernel_rfl⟩
abbrev zq1nz := {β : Type} → zqm → Int → Int → (Int → Option β) → Option β
def zq1o0 : zq1nz := fun c schedule at_ k =>
 zq1nx c schedule at_ (fun (rWho : Int) =>
 k rWho)
def zq1o1 : zq1nz := hid zq1o0
noncomputable def zq1o2 : En := ⟨119, .spec (sg [b47y, b27y, b27y] [] [b27y] [] zq1o1), pf [zq1ny] [] [.tmp 6] Tryz.func119 (by kernel_rfl) fun _ _ => by kernel_rfl⟩
abbrev zq1o3 := {β : Type} → zqm → zq4 → t10y → Int → (t3y → Option β) → Option β
noncomputable def zq1o4 : List En := [zq1o2, zq57, zq7d]
abbrev zq1o5 (β : Type) := t3y → Option β
abbrev zq1o6 (β : Type) := t10y → Int → Int → zqm → zq4 → t3y → Option β
noncomputable def zq1o7 : Pc := ⟨117, 0, Q1 58 (Q2 Tryz.f108), ⟨0, [2, 3, 4, 5, 9, 10], [b31y, b27y, b29y, b34y, b52y, b27y], [b40y, b56y, .row 3 (.int .i64)]⟩, [(.exit 0, ⟨0, [9], [b50y], [.row 3 (.int .i64)]⟩)]⟩
abbrev zq1o8 (β : Type) := t10y → Int → Int → zqm → zq4 → t3y → Option β
abbrev zq1o9 (β : Type) := t10y → Int → Int → Int → zqm → zq4 → t3y → t0y → Option β
noncomputable def zq1oa : Pc := ⟨117, 0, Q1 13050 (Qb zq1o7.c), ⟨0, [2, 3, 4, 5, 9, 10, 11, 13], [b31y, b27y, b29y, b34y, b52y, b27y, b51y, b27y], [b40y, b56y, .row 3 (.int .i64), b66y]⟩, [(.exit 3, ⟨0, [2, 3, 4, 5, 9, 10], [b31y, b27y, b29y, b34y, b52y, b27y], [b40y, b56y, .row 3 (.int .i64)]⟩)]⟩
abbrev zq1ob (β : Type) := t10y → Int → Int → zqm → zq4 → t3y → Option β
abbrev zq1oc (β : Type) := t10y → Int → Int → Bool → zqm → zq4 → t3y → t0y → Option β
noncomputable def zq1od : Pc := ⟨117, 0, Q1 1631 (Qb zq1o7.c), ⟨0, [2, 3, 4, 5, 9, 10, 11, 64], [b31y, b27y, b29y, b34y, b52y, b27y, b51y, b30y], [b40y, b56y, .row 3 (.int .i64), b66y]⟩, [(.normal, ⟨0, [2, 3, 4, 5, 9, 10], [b31y, b27y, b29y, b34y, b52y, b27y], [b40y, b56y, .row 3 (.int .i64)]⟩)]⟩
abbrev zq1oe (β : Type) := t10y → Int → Int → zqm → zq4 → t3y → Option β
abbrev zq1of (β : Type) := t10y → Int → Int → Bool → zqm → zq4 → t3y → t0y → Option β
noncomputable def zq1og : Pc := ⟨117, 0, Q1 407 (Qb zq1o7.c), ⟨0, [2, 3, 4, 5, 9, 10, 11, 41], [b31y, b27y, b29y, b34y, b52y, b27y, b51y, b30y], [b40y, b56y, .row 3 (.int .i64), b66y]⟩, [(.normal, ⟨0, [2, 3, 4, 5, 9, 10], [b31y, b27y, b29y, b34y, b52y, b27y], [b40y, b56y, .row 3 (.int .i64)]⟩)]⟩
abbrev zq1oh (β : Type) := t10y → Int → Int → zqm → zq4 → t3y → Option β
abbrev zq1oi (β : Type) := t10y → Int → Int → Bool → zqm → zq4 → t3y → t0y → Option β
noncomputable def zq1oj : Pc := ⟨117, 0, Q1 101 (Qb zq1o7.c), ⟨0, [2, 3, 4, 5, 9, 10, 11, 24], [b31y, b27y, b29y, b34y, b52y, b27y, b51y, b30y], [b40y, b56y, .row 3 (.int .i64), b66y]⟩, [(.normal, ⟨0, [2, 3, 4, 5, 9, 10], [b31y, b27y, b29y, b34y, b52y, b27y], [b40y, b56y, .row 3 (.int .i64)]⟩)]⟩
def zq1ok {β : Type} (rec : zq1o9 β) (k1 : zq1o8 β) : zq1o9 β := fun l at_ i_ k_ c b out x =>
 cond (decide (0 ≤ x.2) && decide (x.2 < (List.length b.1 : Int)))
 (let e : t6y := List.getD b.1 (Int.toNat x.2) (([] : List UInt8), ([] : List Int));
 cond (decide (k_ < (List.length e.2 : Int)))
 (cond (decide (0 ≤ x.2) && decide (x.2 < (List.length b.1 : Int)))
 (let e2 : t6y := List.getD b.1 (Int.toNat x.2) (([] : List UInt8), ([] : List Int));
 cond (decide (0 ≤ k_) && decide (k_ < (List.length e2.2 : Int)))
 (let e3 : Int := List.getD e2.2 (Int.toNat k_) (0 : Int);
 zq56 e3 (0 : Int) (IntKind.i64.wrap ((List.length c.2.1 : Int) - (1 : Int))) (fun (rIn : Bool) =>
 cond rIn
 (cond (decide (0 ≤ x.2) && decide (x.2 < (List.length b.1 : Int)))
 (let e4 : t6y := List.getD b.1 (Int.toNat x.2) (([] : List UInt8), ([] : List Int));
 cond (decide (0 ≤ k_) && decide (k_ < (List.length e4.2 : Int)))
 (let e5 : Int := List.getD e4.2 (Int.toNat k_) (0 : Int);
 zq7c out e5 (fun (lrWith : List Int) =>
 let k_2 : Int := (IntKind.i64.wrap (k_ + (1 : Int)));
 rec l at_ i_ k_2 c b lrWith x))
 none)
 none)
 (let k_2 : Int := (IntKind.i64.wrap (k_ + (1 : Int)));
 rec l at_ i_ k_2 c b out x)))
 none)
 none)
 (k1 l at_ i_ c b out))
 none
def zq1ol (m : Nat) {β : Type} (k1 : zq1o8 β) : zq1o9 β := lp8 (fun r => zq1ok r k1) none m
theorem zq1om {β : Type} (i : Nat) (k1) : zq1ol (β := β) (i + 1) k1 = zq1ok (zq1ol i k1) k1 := rfl
def zq1on {β : Type} := hid (zq1ol (β := β) fuel)
noncomputable def zq1oo : Pb := ⟨13050, zq1oa, fun _ => zq1on, pl (p := zq1oa) zq1o4 [] (g := fun i _ => zq1ol i) (by kernel_rfl) rfl (by kernel_rfl) (fun _ _ => rfl) fun _ _ _ _ => by kernel_rfl⟩
def zq1op {β : Type} (k1 : zq1ob β) : zq1oc β := fun l at_ i_ t64 c b out x =>
 cond t64
 (zq1on (fun (l2 : List t0y) (at_2 : Int) (i_2 : Int) (c2 : zqm) (b2 : zq4) (out2 : List Int) =>
 k1 l2 at_2 i_2 c2 b2 out2) l at_ i_ (0 : Int) c b out x)
 (k1 l at_ i_ c b out)
def zq1oq {β : Type} := hid (zq1op (β := β))
noncomputable def zq1or : Pb := ⟨1631, zq1od, fun _ => zq1oq, pe (p := zq1od) zq1o4 [zq1oo] 1631 (g := fun _ => zq1op) (by kernel_rfl) fun _ _ => by kernel_rfl⟩
def zq1os {β : Type} (k1 : zq1oe β) : zq1of β := fun l at_ i_ t41 c b out x =>
 cond t41
 (zq1o1 c x.2 at_ (fun (rWho : Int) =>
 cond (decide ((0 : Int) ≤ rWho))
 (zq7c out rWho (fun (lrWith : List Int) =>
 k1 l at_ i_ c b lrWith))
 (k1 l at_ i_ c b out)))
 (cond (decide (x.1 = (2 : Int)))
 (zq56 x.2 (0 : Int) (IntKind.i64.wrap ((List.length b.1 : Int) - (1 : Int))) (fun (rIn : Bool) =>
 zq1oq (fun (l2 : List t0y) (at_2 : Int) (i_2 : Int) (c2 : zqm) (b2 : zq4) (out2 : List Int) =>
 k1 l2 at_2 i_2 c2 b2 out2) l at_ i_ rIn c b out x))
 (zq1oq (fun (l2 : List t0y) (at_2 : Int) (i_2 : Int) (c2 : zqm) (b2 : zq4) (out2 : List Int) =>
 k1 l2 at_2 i_2 c2 b2 out2) l at_ i_ false c b out x))
def zq1ot {β : Type} := hid (zq1os (β := β))
noncomputable def zq1ou : Pb := ⟨407, zq1og, fun _ => zq1ot, pe (p := zq1og) zq1o4 [zq1or] 407 (g := fun _ => zq1os) (by kernel_rfl) fun _ _ => by kernel_rfl⟩
def zq1ov {β : Type} (k1 : zq1oh β) : zq1oi β := fun l at_ i_ t24 c b out x =>
 cond t24
 (zq7c out x.2 (fun (lrWith : List Int) =>
 k1 l at_ i_ c b lrWith))
 (cond (decide (x.1 = (1 : Int)))
 (zq56 x.2 (0 : Int) (IntKind.i64.wrap ((List.length c.2.2.2 : Int) - (1 : Int))) (fun (rIn : Bool) =>
 zq1ot (fun (l2 : List t0y) (at_2 : Int) (i_2 : Int) (c2 : zqm) (b2 : zq4) (out2 : List Int) =>
 k1 l2 at_2 i_2 c2 b2 out2) l at_ i_ rIn c b out x))
 (zq1ot (fun (l2 : List t0y) (at_2 : Int) (i_2 : Int) (c2 : zqm) (b2 : zq4) (out2 : List Int) =>
 k1 l2 at_2 i_2 c2 b2 out2) l at_ i_ false c b out x))
def zq1ow {β : Type} := hid (zq1ov (β := β))
noncomputable def zq1ox : Pb := ⟨101, zq1oj, fun _ => zq1ow, pe (p := zq1oj) zq1o4 [zq1ou] 101 (g := fun _ => zq1ov) (by kernel_rfl) fun _ _ => by kernel_rfl⟩
def zq1oy {β : Type} (rec : zq1o6 β) (k1 : zq1o5 β) : zq1o6 β := fun l at_ i_ c b out =>
 cond (decide (i_ < (List.length l : Int)))
 (cond (decide (0 ≤ i_) && decide (i_ < (List.length l : Int)))
 (let e : t0y := List.getD l (Int.toNat i_) ((0 : Int), (0 : Int));
 cond (decide (e.1 = (0 : Int)))
 (zq56 e.2 (0 : Int) (IntKind.i64.wrap ((List.length c.2.1 : Int) - (1 : Int))) (fun (rIn : Bool) =>
 zq1ow (fun (l2 : List t0y) (at_2 : Int) (i_2 : Int) (c2 : zqm) (b2 : zq4) (out2 : List Int) =>
 let i_3 : Int := (IntKind.i64.wrap (i_2 + (1 : Int)));
 rec l2 at_2 i_3 c2 b2 out2) l at_ i_ rIn c b out e))
 (zq1ow (fun (l2 : List t0y) (at_2 : Int) (i_2 : Int) (c2 : zqm) (b2 : zq4) (out2 : List Int) =>
 let i_3 : Int := (IntKind.i64.wrap (i_2 + (1 : Int)));
 rec l2 at_2 i_3 c2 b2 out2) l at_ i_ false c b out e))
 none)
 (k1 out)
def zq1oz (m : Nat) {β : Type} (k1 : zq1o5 β) : zq1o6 β := lp6 (fun r => zq1oy r k1) none m
theorem zq1p0 {β : Type} (i : Nat) (k1) : zq1oz (β := β) (i + 1) k1 = zq1oy (zq1oz i k1) k1 := rfl
def zq1p1 {β : Type} := hid (zq1oz (β := β) fuel)
noncomputable def zq1p2 : Pb := ⟨58, zq1o7, fun _ => zq1p1, pl (p := zq1o7) zq1o4 [zq1ox] (g := fun i _ => zq1oz i) (by kernel_rfl) rfl (by kernel_rfl) (fun _ _ => rfl) fun _ _ _ _ => by kernel_rfl⟩
def zq1p3 : zq1o3 := fun c b l at_ k =>
 zq1p1 (fun (out : List Int) =>
 k out) l at_ (0 : Int) c b ([] : List Int)
def zq1p4 : zq1o3 := hid zq1p3
noncomputable def zq1p5 : En := ⟨108, .spec (sg [b47y, b79y, b31y, b27y] [] [b50y] [.row 3 (.int .i64)] zq1p4), pf zq1o4 [zq1p2] [.tmp 8] Tryz.func108 (by kernel_rfl) fun _ _ => by kernel_rfl⟩
abbrev zq1p6 := {β : Type} → zqm → zq4 → zqy → (zqy → Int → Option β) → Option β
noncomputable def zq1p7 : List En := [zq1n8, zqf3, zq1p5, zqs4, zq7p, zq7t]
abbrev zq1p8 (β : Type) := Int → zqy → Int → Int → Int → Int → Int → Int → Int → Int → Int → Int → Int → Int → Int → Int → Int → Int → Int → Int → Int → Int → Int → Int → zq2 → Int → Int → (List t4y) → t3y → t3y → (List t4y) → t3y → t3y → t3y → Option β
abbrev zq1p9 (β : Type) := Int → Int → Int → zqm → zqy → Int → Int → Int → Int → Int → Int → Int → Int → Int → Int → Int → Int → Int → Int → Int → Int → Int → Int → Int → Int → Int → Int → zq2 → Int → Int → t3y → (List t4y) → t3y → t3y → (List t4y) → t3y → t3y → t3y → Option β
noncomputable def zq1pa : Pc := ⟨136, 0, Q1 131066 (Q2 Tryz.f74), ⟨0, [3, 5, 6, 8, 10, 11, 12, 15, 16, 17], [b29y, b34y, b37y, b27y, b51y, b78y, b27y, (false, [.ptr 5 0]), (false, [.rowh 6]), b27y], [b40y, b38y, .cells 52 [.data (.int .i64), .data (.int .i64), .data (.int .i64), .data (.int .i64), .data (.int .i64), .data (.int .i64), .data (.int .i64), .data (.int .i64), .data (.int .i64), .data (.int .i64), .data (.int .i64), .rowh 7, .rowh 8, .rowh 9], .cells 52 [.data (.int .i64), .data (.int .i64), .data (.int .i64), .data (.int .i64), .data (.int .i64), .data (.int .i64), .data (.int .i64), .data (.int .i64), .data (.int .i64), .data (.int .i64), .data (.int .i64), .rowh 10, .rowh 11, .rowh 12], .cells 116 [.data zq3], .cells 143 [.data (.int .i64), .data (.int .i64), .rowh 13], .row 3 (.int .i64), .row 143 (.prod (.int .i64) (.prod (.int .i64) (.slice (.int .i64)))), .row 3 (.int .i64), .row 3 (.int .i64), .row 143 (.prod (.int .i64) (.prod (.int .i64) (.slice (.int .i64)))), .row 3 (.int .i64), .row 3 (.int .i64), .row 3 (.int .i64)]⟩, [(.exit 0, ⟨0, [5, 6, 10, 11, 12, 15], [b29y, b34y, b37y, b51y, b27y, b78y], [b38y, b48y, .cells 52 [.data (.int .i64), .data (.int .i64), .data (.int .i64), .data (.int .i64), .data (.int .i64), .data (.int .i64), .data (.int .i64), .data (.int .i64), .data (.int .i64), .data (.int .i64), .data (.int .i64), .rowh 8, .rowh 9, .rowh 10], .cells 116 [.data zq3], .cells 143 [.data (.int .i64), .data (.int .i64), .rowh 11], .row 143 (.prod (.int .i64) (.prod (.int .i64) (.slice (.int .i64)))), .row 3 (.int .i64), .row 3 (.int .i64), .row 143 (.prod (.int .i64) (.prod (.int .i64) (.slice (.int .i64)))), .row 3 (.int .i64), .row 3 (.int .i64), .row 3 (.int .i64)]⟩)]⟩
def zq1pb {β : Type} (rec : zq1p9 β) (k1 : zq1p8 β) : zq1p9 β := fun at_ i_ k_ c p_ t6 t62 t63 t64 t65 t66 t67 t68 t69 t610 t611 out out2 out3 out4 out5 out6 out7 out8 out9 out10 out11 pol x x2 l b7_ b8_ b9_ b10_ b11_ b12_ b13_ =>
 cond (decide (k_ < (List.length l : Int)))
 (cond (decide (0 ≤ k_) && decide (k_ < (List.length l : Int)))
 (cond (decide (0 ≤ i_) && decide (i_ < (List.length pol.2.1 : Int)))
 (let e : zq0 := List.getD pol.2.1 (Int.toNat i_) ((0 : Int), (false, ([] : List t0y)));
 zq1n7 c (List.getD l (Int.toNat k_) (0 : Int)) at_ e.2.1 (fun (rReachable : Bool) =>
 cond rReachable
 (cond (decide (0 ≤ k_) && decide (k_ < (List.length l : Int)))
 (let l2 : List Int := ([(List.getD l (Int.toNat k_) (0 : Int))] : List Int);
 cond (decide ((List.length b13_ + List.length l2) * 8 ≤ Q5))
 (let l3 : List Int := (b13_ ++ l2);
 let k_2 : Int := (IntKind.i64.wrap (k_ + (1 : Int)));
 rec at_ i_ k_2 c p_ t6 t62 t63 t64 t65 t66 t67 t68 t69 t610 t611 out out2 out3 out4 out5 out6 out7 out8 out9 out10 out11 pol x x2 l b7_ b8_ b9_ b10_ b11_ b12_ l3)
 none)
 none)
 (let k_2 : Int := (IntKind.i64.wrap (k_ + (1 : Int)));
 rec at_ i_ k_2 c p_ t6 t62 t63 t64 t65 t66 t67 t68 t69 t610 t611 out out2 out3 out4 out5 out6 out7 out8 out9 out10 out11 pol x x2 l b7_ b8_ b9_ b10_ b11_ b12_ b13_)))
 none)
 none)
 (k1 i_ p_ t6 t62 t63 t64 t65 t66 t67 t68 t69 t610 t611 out out2 out3 out4 out5 out6 out7 out8 out9 out10 out11 pol x x2 b7_ b8_ b9_ b10_ b11_ b12_ b13_)
def zq1pc (m : Nat) {β : Type} (k1 : zq1p8 β) : zq1p9 β := lp38 (fun r => zq1pb r k1) none m
theorem zq1pd {β : Type} (i : Nat) (k1) : zq1pc (β := β) (i + 1) k1 = zq1pb (zq1pc i k1) k1 := rfl
def zq1pe {β : Type} := hid (zq1pc (β := β) fuel)
noncomputable def zq1pf : Pb := ⟨131066, zq1pa, fun _ => zq1pe, Q1n mixed (X := ⟨look tab, gam zq1p7, false, false, false, false, [(143, [0, 1, 2])]⟩) (p := zq1pa) Qp zq1p7 rfl [] (g := fun i _ => zq1pc i) (by kernel_rfl) rfl (by kernel_rfl) (fun _ _ => rfl) fun _ _ _ _ => by kernel_rfl⟩
def zq1pg : zq1p6 := fun c b p_ k =>
 zqs3 b p_ (fun (rCheck : Bool) =>
 cond (!rCheck)
 (k zq1g (8 : Int))
 (zq7s p_ (fun (rDue : Int) (rDue2 : Bool) =>
 cond (!rDue2)
 (k zq1g (9 : Int))
 (cond (decide ((200 : Int) ≤ (List.length p_.2.2.2.2.2.2.2.2.2.2.2.1 : Int)))
 (k zq1g (5 : Int))
 (zq7o p_ (fun (rCopy : Int) (rCopy2 : Int) (rCopy3 : Int) (rCopy4 : Int) (rCopy5 : Int) (rCopy6 : Int) (rCopy7 : Int) (rCopy8 : Int) (rCopy9 : Int) (rCopy10 : Int) (rCopy11 : Int) (lrCopy : List t4y) (lrCopy2 : List Int) (lrCopy3 : List Int) =>
 cond (decide (p_.2.2.2.2.2.1 = (2 : Int)))
 (k (rCopy, (rCopy2, (rCopy3, (rCopy4, (rDue, ((0 : Int), (rCopy7, (rCopy8, ((if p_.2.2.2.2.2.2.2.2.1 > rDue then p_.2.2.2.2.2.2.2.2.1 else rDue), (rCopy10, (rCopy11, (lrCopy, (lrCopy2, lrCopy3))))))))))))) (0 : Int))
 (cond (decide (0 ≤ p_.2.1) && decide (p_.2.1 < (List.length b.2 : Int)))
 (let e : zq2 := List.getD b.2 (Int.toNat p_.2.1) (([] : List UInt8), (([] : List zq0), (0 : Int)));
 zqf2 e p_.2.2.2.1 (fun (rPart : Int) (rPart2 : Int) (rPart3 : Bool) =>
 cond (!rPart3)
 (k (rCopy, (rCopy2, (rCopy3, (rCopy4, (rCopy5, ((3 : Int), (rCopy7, (rCopy8, ((if p_.2.2.2.2.2.2.2.2.1 > rDue then p_.2.2.2.2.2.2.2.2.1 else rDue), (rCopy10, (rCopy11, (lrCopy, (lrCopy2, lrCopy3))))))))))))) (0 : Int))
 (cond (decide (0 ≤ rPart) && decide (rPart < (List.length e.2.1 : Int)))
 (let e2 : zq0 := List.getD e.2.1 (Int.toNat rPart) ((0 : Int), (false, ([] : List t0y)));
 zq1p4 c b e2.2.2 rDue (fun (lrPeople : List Int) =>
 zq1pe (fun (i_ : Int) (p_2 : zqy) (t6 : Int) (t62 : Int) (t63 : Int) (t64 : Int) (t65 : Int) (t66 : Int) (t67 : Int) (t68 : Int) (t69 : Int) (t610 : Int) (t611 : Int) (out : Int) (out2 : Int) (out3 : Int) (out4 : Int) (out5 : Int) (out6 : Int) (out7 : Int) (out8 : Int) (out9 : Int) (out10 : Int) (out11 : Int) (pol : zq2) (x : Int) (x2 : Int) (b5_ : List t4y) (b6_ : List Int) (b7_ : List Int) (b8_ : List t4y) (b9_ : List Int) (b10_ : List Int) (b11_ : List Int) =>
 let l : List t4y := ([(x, (x2, b11_))] : List t4y);
 cond (decide ((List.length b8_ + List.length l) * 40 ≤ Q5))
 (let l2 : List t4y := (b8_ ++ l);
 cond (decide ((0 : Int) < (List.length b11_ : Int)))
 (cond (decide (0 ≤ i_) && decide (i_ < (List.length pol.2.1 : Int)))
 (let e3 : zq0 := List.getD pol.2.1 (Int.toNat i_) ((0 : Int), (false, ([] : List t0y)));
 k (out, (out2, (out3, ((IntKind.i64.wrap (p_2.2.2.2.1 + (1 : Int))), ((IntKind.i64.wrap (out5 + e3.1)), (out6, (out7, (out8, (out9, (out10, (out11, (l2, (([] : List Int), b10_))))))))))))) (0 : Int))
 none)
 (k (out, (out2, (out3, ((IntKind.i64.wrap (p_2.2.2.2.1 + (1 : Int))), (out5, (out6, (out7, (out8, (out9, (out10, (out11, (l2, (([] : List Int), b10_))))))))))))) (0 : Int)))
 none) rDue rPart (0 : Int) c p_ (0 : Int) (0 : Int) (0 : Int) (0 : Int) (0 : Int) (0 : Int) (0 : Int) (0 : Int) (0 : Int) (0 : Int) (0 : Int) rCopy rCopy2 rCopy3 rCopy4 rCopy5 rCopy6 rCopy7 rCopy8 (if p_.2.2.2.2.2.2.2.2.1 > rDue then p_.2.2.2.2.2.2.2.2.1 else rDue) rCopy10 rCopy11 e p_.2.2.2.1 rDue lrPeople ([] : List t4y) ([] : List Int) ([] : List Int) lrCopy lrCopy2 lrCopy3 ([] : List Int)))
 none)))
 none)))))))
def zq1ph : zq1p6 := hid zq1pg
noncomputable def zq1pi : En := ⟨74, .spec (sg [b47y, b79y, b58y] [] [b58y, b27y] [] zq1ph), Q7j mixed (X := ⟨look tab, gam zq1p7, false, false, false, false, [(143, [0, 1, 2])]⟩) Qp zq1p7 rfl [zq1pf] [.cell 6 52, .tmp 7] Tryz.func74 (by kernel_rfl) fun _ _ => by kernel_rfl⟩
abbrev zq1pj := {β : Type} → zqm → zq4 → zqy → Int → (zqy → Int → Option β) → Option β
noncomputable def zq1pk : List En := [zqs4, zq7p, zq7t, zq1pi]
abbrev zq1pl (β : Type) := Int → zqy → Option β
abbrev zq1pm (β : Type) := Int → zqm → zq4 → zqy → zqy → Option β
noncomputable def zq1pn : Pc := ⟨46, 0, Q1 30 (Q2 Tryz.f39), ⟨0, [3, 4, 5, 6, 8], [b27y, b29y, b34y, b37y, b51y], [b40y, b56y, b38y, b38y]⟩, [(.ret, ⟨0, [8, 9], [b29y, b27y], [b38y]⟩)]⟩
def zq1po {β : Type} (rec : zq1pm β) (k1 : zq1pl β) : zq1pm β := fun now c b p_ t8 =>
 zq7s p_ (fun (rDue : Int) (rDue2 : Bool) =>
 cond (!rDue2)
 (k1 (0 : Int) p_)
 (cond (decide (now < rDue))
 (k1 (0 : Int) p_)
 (zq1ph c b p_ (fun (rStep : zqy) (rStep2 : Int) =>
 cond (!decide (rStep2 = (0 : Int)))
 (k1 rStep2 zq1g)
 (rec now c b rStep t8)))))
def zq1pp (m : Nat) {β : Type} (k1 : zq1pl β) : zq1pm β := lp5 (fun r => zq1po r k1) none m
theorem zq1pq {β : Type} (i : Nat) (k1) : zq1pp (β := β) (i + 1) k1 = zq1po (zq1pp i k1) k1 := rfl
def zq1pr {β : Type} := hid (zq1pp (β := β) fuel)
noncomputable def zq1ps : Pb := ⟨30, zq1pn, fun _ => zq1pr, pl (p := zq1pn) zq1pk [] (g := fun i _ => zq1pp i) (by kernel_rfl) rfl (by kernel_rfl) (fun _ _ => rfl) fun _ _ _ _ => by kernel_rfl⟩
def zq1pt : zq1pj := fun c b p_ now k =>
 zqs3 b p_ (fun (rCheck : Bool) =>
 cond (!rCheck)
 (k zq1g (8 : Int))
 (zq7o p_ (fun (rCopy : Int) (rCopy2 : Int) (rCopy3 : Int) (rCopy4 : Int) (rCopy5 : Int) (rCopy6 : Int) (rCopy7 : Int) (rCopy8 : Int) (rCopy9 : Int) (rCopy10 : Int) (rCopy11 : Int) (lrCopy : List t4y) (lrCopy2 : List Int) (lrCopy3 : List Int) =>
 zq1pr (fun (t9 : Int) (t8 : zqy) =>
 k t8 t9) now c b (rCopy, (rCopy2, (rCopy3, (rCopy4, (rCopy5, (rCopy6, (rCopy7, (rCopy8, (rCopy9, (rCopy10, (rCopy11, (lrCopy, (lrCopy2, lrCopy3))))))))))))) zq1g)))
def zq1pu : zq1pj := hid zq1pt
noncomputable def zq1pv : En := ⟨39, .spec (sg [b47y, b79y, b58y, b27y] [] [b58y, b27y] [] zq1pu), pf zq1pk [zq1ps] [.cell 8 52, .tmp 9] Tryz.func39 (by kernel_rfl) fun _ _ => by kernel_rfl⟩
abbrev zq1pw := {β : Type} → zqm → zq4 → Int → t1y → (zqy → Int → t1y → Option β) → Option β
noncomputable def zq1px : List En := [zq3u, zq1t, zq2b, zq13e, zqq5, zq1pv]
abbrev zq1py (β : Type) := Int → t1y → zqy → zqy → Option β
abbrev zq1pz (β : Type) := Int → Int → t1y → zqm → zq4 → zqy → zqy → Option β
noncomputable def zq1q0 : Pc := ⟨95, 1, Q1 250 (Q2 Tryz.f11), ⟨1, [0, 5, 6, 8, 10, 11, 13], [b29y, b34y, b37y, b51y, b27y, b78y, b27y], [b28y, b40y, b56y, b38y, b38y]⟩, [(.exit 0, ⟨1, [8, 10, 11], [b34y, b27y, b37y], [b28y, b38y, b38y]⟩)]⟩
abbrev zq1q1 (β : Type) := Int → Int → t1y → zqm → zq4 → zqy → zqy → Option β
abbrev zq1q2 (β : Type) := Int → Int → t1y → zqm → zq4 → zqy → zqy → Option β
noncomputable def zq1q3 : Pc := ⟨95, 1, Q1 51 (Qb zq1q0.c), ⟨1, [0, 5, 6, 8, 10, 11, 13], [b29y, b34y, b37y, b51y, b27y, b78y, b27y], [b28y, b40y, b56y, b38y, b38y]⟩, [(.normal, ⟨1, [0, 5, 6, 8, 10, 11, 13], [b29y, b34y, b37y, b51y, b27y, b78y, b27y], [b28y, b40y, b56y, b38y, b38y]⟩)]⟩
def zq1q4 {β : Type} (k1 : zq1q1 β) : zq1q2 β := fun now i_ d c b t8 p_ =>
 zq1s (9 : Int) d (fun (rNext : Int) (mrNext : t1y) =>
 zq3t (IntKind.i64.wrap ((1 : Int) + rNext)) p_.1 now mrNext (fun (rAnswer : t22y) (mrAnswer : t1y) =>
 zq13d c b p_ rAnswer (fun (rAnswer2 : zqy) (rAnswer3 : Int) =>
 cond (decide (rAnswer3 = (0 : Int)))
 (zq1s (3 : Int) mrAnswer (fun (rNext2 : Int) (mrNext2 : t1y) =>
 cond (decide ((0 : Int) < rNext2))
 (k1 now i_ mrNext2 c b t8 rAnswer2)
 (k1 now i_ mrNext2 c b t8 p_)))
 (k1 now i_ mrAnswer c b t8 p_))))
def zq1q5 {β : Type} := hid (zq1q4 (β := β))
noncomputable def zq1q6 : Pb := ⟨51, zq1q3, fun _ => zq1q5, pe (p := zq1q3) zq1px [] 51 (g := fun _ => zq1q4) (by kernel_rfl) fun _ _ => by kernel_rfl⟩
def zq1q7 {β : Type} (rec : zq1pz β) (k1 : zq1py β) : zq1pz β := fun now i_ d c b t8 p_ =>
 cond (decide ((0 : Int) < i_))
 (let l : List Int := ([(0 : Int), (1 : Int), (59 : Int), (60 : Int), (240 : Int), (600 : Int), (2000 : Int)] : List Int);
 zq2a l d (fun (rOne : Int) (mrOne : t1y) =>
 let now2 : Int := (IntKind.i64.wrap (now + rOne));
 zq1pu c b p_ now2 (fun (rRun : zqy) (rRun2 : Int) =>
 cond (decide (rRun2 = (0 : Int)))
 (zq1s (8 : Int) mrOne (fun (rNext : Int) (mrNext : t1y) =>
 cond (decide ((0 : Int) < rNext))
 (zq1q5 (fun (now3 : Int) (i_2 : Int) (d2 : t1y) (c2 : zqm) (b2 : zq4) (t82 : zqy) (p_2 : zqy) =>
 let i_3 : Int := (IntKind.i64.wrap (i_2 - (1 : Int)));
 rec now3 i_3 d2 c2 b2 t82 p_2) now2 i_ mrNext c b t8 rRun)
 (zq1q5 (fun (now3 : Int) (i_2 : Int) (d2 : t1y) (c2 : zqm) (b2 : zq4) (t82 : zqy) (p_2 : zqy) =>
 let i_3 : Int := (IntKind.i64.wrap (i_2 - (1 : Int)));
 rec now3 i_3 d2 c2 b2 t82 p_2) now2 i_ mrNext c b t8 p_)))
 (zq1q5 (fun (now3 : Int) (i_2 : Int) (d2 : t1y) (c2 : zqm) (b2 : zq4) (t82 : zqy) (p_2 : zqy) =>
 let i_3 : Int := (IntKind.i64.wrap (i_2 - (1 : Int)));
 rec now3 i_3 d2 c2 b2 t82 p_2) now2 i_ mrOne c b t8 p_))))
 (k1 now d t8 p_)
def zq1q8 (m : Nat) {β : Type} (k1 : zq1py β) : zq1pz β := lp7 (fun r => zq1q7 r k1) none m
theorem zq1q9 {β : Type} (i : Nat) (k1) : zq1q8 (β := β) (i + 1) k1 = zq1q7 (zq1q8 i k1) k1 := rfl
def zq1qa {β : Type} := hid (zq1q8 (β := β) fuel)
noncomputable def zq1qb : Pb := ⟨250, zq1q0, fun _ => zq1qa, pl (p := zq1q0) zq1px [zq1q6] (g := fun i _ => zq1q8 i) (by kernel_rfl) rfl (by kernel_rfl) (fun _ _ => rfl) fun _ _ _ _ => by kernel_rfl⟩
def zq1qc : zq1pw := fun c b n d k =>
 let l : List Int := ([(0 : Int), (100 : Int), (3500 : Int)] : List Int);
 zq2a l d (fun (rOne : Int) (mrOne : t1y) =>
 let now : Int := (IntKind.i64.wrap ((864000 : Int) + rOne));
 zq1s (3 : Int) mrOne (fun (rNext : Int) (mrNext : t1y) =>
 zq1s (if (1 : Int) > (List.length b.2 : Int) then (1 : Int) else (List.length b.2 : Int)) mrNext (fun (rNext2 : Int) (mrNext2 : t1y) =>
 zqq4 b (IntKind.i64.wrap ((1 : Int) + rNext)) rNext2 now (fun (rNew : zqy) (rNew2 : Int) =>
 cond (!decide (rNew2 = (0 : Int)))
 (k zq1g now mrNext2)
 (zq1s (IntKind.i64.wrap (n + (1 : Int))) mrNext2 (fun (rNext3 : Int) (mrNext3 : t1y) =>
 zq1qa (fun (now2 : Int) (b0_ : t1y) (t8 : zqy) (p_ : zqy) =>
 k p_ now2 b0_) now rNext3 mrNext3 c b zq1g rNew))))))
def zq1qd : zq1pw := hid zq1qc
noncomputable def zq1qe : En := ⟨11, .spec (sg [b29y, b47y, b79y, b27y] [b28y] [b58y, b27y] [b28y] zq1qd), pf zq1px [zq1qb] [.cell 8 52, .tmp 9] Tryz.func11 (by kernel_rfl) fun _ _ => by kernel_rfl⟩
abbrev zq1qf := {β : Type} → t3y → t10y → t12y → Int → Int → Int → Int → Int → (Bool → Option β) → Option β
noncomputable def zq1qg : List En := [zq26, zq1i4, zqoj, zqni, zq18e, zq1t, zqq1, zq2b, zq1qe, zqpq, zq1l, zq1p, zq1fu, zq10d, zqzw, zq10q, zq109, zq3b, zq1m5, zq1g2, zq19p, zq1g6, zq1fy, zq2t]
abbrev zq1qh (β : Type) := t10y → t12y → Int → Int → Int → Int → Int → t1y → zqw → t21y → Option β
abbrev zq1qi (β : Type) := t10y → t12y → Int → Int → Int → Int → Int → Int → t1y → zqm → zq4 → zqw → t21y → Option β
noncomputable def zq1qj : Pc := ⟨338, 0, Q1 1018 (Q2 Tryz.f3), ⟨0, [1, 2, 3, 4, 5, 6, 7, 17, 18, 19, 20, 21, 22], [b31y, b44y, b27y, b27y, b27y, b27y, b27y, b29y, b34y, b37y, b51y, (false, [.rowh 4]), b27y], [b28y, b40y, b56y, b32y, .row 52 zqz]⟩, [(.exit 0, ⟨0, [1, 2, 3, 4, 5, 6, 7, 17, 20, 21], [b31y, b44y, b27y, b27y, b27y, b27y, b27y, b29y, b34y, b52y], [b28y, b32y, .row 52 zqz]⟩)]⟩
abbrev zq1qk (β : Type) := Bool → Option β
abbrev zq1ql (β : Type) := t10y → t12y → Int → Int → Int → Int → Int → t1y → Option β
abbrev zq1qm (β : Type) := t10y → t12y → Int → Int → Int → Int → Int → Int → Int → t1y → t21y → (List zqw) → Option β
noncomputable def zq1qn : Pc := ⟨338, 0, Q1 8186 (Q2 Tryz.f3), ⟨0, [1, 2, 3, 4, 5, 6, 7, 17, 21, 110, 111, 112], [b31y, b44y, b27y, b27y, b27y, b27y, b27y, b29y, b45y, b52y, b27y, b27y], [b28y, .row 52 zqz, .row 46 zqx]⟩, [(.ret, ⟨0, [16], [b30y], []⟩), (.exit 2, ⟨0, [1, 2, 3, 4, 5, 6, 7, 17], [b31y, b44y, b27y, b27y, b27y, b27y, b27y, b29y], [b28y]⟩)]⟩
abbrev zq1qo (β : Type) := Bool → Option β
abbrev zq1qp (β : Type) := t10y → t12y → Int → Int → Int → t1y → Option β
abbrev zq1qq (β : Type) := t10y → t12y → Int → Int → Int → Int → Int → Int → Int → t1y → (List zqo) → Option β
noncomputable def zq1qr : Pc := ⟨338, 0, Q1 32762 (Q2 Tryz.f3), ⟨0, [1, 2, 3, 4, 5, 6, 7, 17, 146, 147, 148], [b31y, b44y, b27y, b27y, b27y, b27y, b27y, b29y, b45y, b27y, b27y], [b28y, .row 68 zqp]⟩, [(.ret, ⟨0, [16], [b30y], []⟩), (.exit 4, ⟨0, [1, 2, 3, 4, 5, 17], [b31y, b44y, b27y, b27y, b27y, b29y], [b28y]⟩)]⟩
abbrev zq1qs (β : Type) := Bool → Option β
abbrev zq1qt (β : Type) := t12y → Int → Option β
abbrev zq1qu (β : Type) := t12y → Int → Int → Int → Int → Int → t1y → (List t10y) → Option β
noncomputable def zq1qv : Pc := ⟨338, 0, Q1 262138 (Q2 Tryz.f3), ⟨0, [2, 3, 4, 5, 17, 214, 215, 216], [b44y, b27y, b27y, b27y, b29y, b45y, b27y, b27y], [b28y, .row 23 (.slice (.prod (.int .i64) (.int .i64)))]⟩, [(.ret, ⟨0, [16], [b30y], []⟩), (.exit 8, ⟨0, [2, 3], [b44y, b27y], []⟩)]⟩
abbrev zq1qw (β : Type) := Bool → Option β
abbrev zq1qx (β : Type) := t10y → t12y → Int → Int → Int → Int → Int → Int → Int → t1y → (List zqo) → Option β
abbrev zq1qy (β : Type) := t10y → t12y → Int → Int → Int → Int → Int → Int → Int → Int → Int → t1y → zqo → (List zqo) → t10y → Option β
noncomputable def zq1qz : Pc := ⟨338, 0, Q1 230 (Qb zq1qr.c), ⟨0, [1, 2, 3, 4, 5, 6, 7, 17, 35, 146, 147, 148, 161, 162, 163], [b31y, b44y, b27y, b27y, b27y, b27y, b27y, b29y, b34y, b52y, b27y, b27y, b62y, b27y, b27y], [b28y, b39y, .row 68 zqp, .row 73 (.prod (.int .i64) (.int .i64))]⟩, [(.ret, ⟨0, [16], [b30y], []⟩), (.exit 6, ⟨0, [1, 2, 3, 4, 5, 6, 7, 17, 146, 147, 148], [b31y, b44y, b27y, b27y, b27y, b27y, b27y, b29y, b45y, b27y, b27y], [b28y, .row 68 zqp]⟩)]⟩
abbrev zq1r0 (β : Type) := Bool → Option β
abbrev zq1r1 (β : Type) := t12y → Int → Int → Int → Int → Int → t1y → (List t10y) → Option β
abbrev zq1r2 (β : Type) := t12y → Int → Int → Int → t10y → Int → Int → Int → Int → t1y → (List t10y) → t10y → Option β
noncomputable def zq1r3 : Pc := ⟨338, 0, Q1 7422 (Qb zq1qv.c), ⟨0, [2, 3, 4, 5, 17, 46, 214, 215, 216, 281, 282, 283], [b44y, b27y, b27y, b27y, b29y, b31y, b45y, b27y, b27y, b52y, b27y, b27y], [b28y, .row 23 (.slice (.prod (.int .i64) (.int .i64))), .row 73 (.prod (.int .i64) (.int .i64))]⟩, [(.ret, ⟨0, [16], [b30y], []⟩), (.exit 10, ⟨0, [2, 3, 4, 5, 17, 214, 215, 216], [b44y, b27y, b27y, b27y, b29y, b45y, b27y, b27y], [b28y, .row 23 (.slice (.prod (.int .i64) (.int .i64)))]⟩)]⟩
def zq1r4 {β : Type} (rec : zq1qi β) (k1 : zq1qh β) : zq1qi β := fun raw times limit num den a b i_ d c k_ x pages =>
 cond (decide ((0 : Int) < i_))
 (zq1qd c k_ (4 : Int) d (fun (rPage : zqy) (rPage2 : Int) (mrPage : t1y) =>
 let l : List zqy := ([rPage] : List zqy);
 cond (decide ((List.length pages + List.length l) * 160 ≤ Q5))
 (let l2 : List zqy := (pages ++ l);
 let i_2 : Int := (IntKind.i64.wrap (i_ - (1 : Int)));
 rec raw times limit num den a b i_2 mrPage c k_ x l2)
 none))
 (k1 raw times limit num den a b d x pages)
def zq1r5 (m : Nat) {β : Type} (k1 : zq1qh β) : zq1qi β := lp13 (fun r => zq1r4 r k1) none m
theorem zq1r6 {β : Type} (i : Nat) (k1) : zq1r5 (β := β) (i + 1) k1 = zq1r4 (zq1r5 i k1) k1 := rfl
def zq1r7 {β : Type} := hid (zq1r5 (β := β) fuel)
noncomputable def zq1r8 : Pb := ⟨1018, zq1qj, fun _ => zq1r7, pl (p := zq1qj) zq1qg [] (g := fun i _ => zq1r5 i) (by kernel_rfl) rfl (by kernel_rfl) (fun _ _ => rfl) fun _ _ _ _ => by kernel_rfl⟩
def zq1r9 {β : Type} (rec : zq1qm β) (k1 : zq1qk β) (k2 : zq1ql β) : zq1qm β := fun raw times limit num den a b t111 t112 d pages t110 =>
 cond (decide (t112 < t111))
 (cond (decide (0 ≤ t112) && decide (t112 < (List.length t110 : Int)))
 (zq19o ((List.getD t110 (Int.toNat t112) ((0 : Int), ((0 : Int), ((0 : Int), ((0 : Int), (([] : List UInt8), (((0 : Int), ((0 : Int), (0 : Int))), (([] : List Int), (([] : List zqq), (([] : List zqs), (([] : List Int), (([] : List t2y), (0 : Int))))))))))))).1, (((List.getD t110 (Int.toNat t112) ((0 : Int), ((0 : Int), ((0 : Int), ((0 : Int), (([] : List UInt8), (((0 : Int), ((0 : Int), (0 : Int))), (([] : List Int), (([] : List zqq), (([] : List zqs), (([] : List Int), (([] : List t2y), (0 : Int))))))))))))).2).1, ((((List.getD t110 (Int.toNat t112) ((0 : Int), ((0 : Int), ((0 : Int), ((0 : Int), (([] : List UInt8), (((0 : Int), ((0 : Int), (0 : Int))), (([] : List Int), (([] : List zqq), (([] : List zqs), (([] : List Int), (([] : List t2y), (0 : Int))))))))))))).2).2).1, (((((List.getD t110 (Int.toNat t112) ((0 : Int), ((0 : Int), ((0 : Int), ((0 : Int), (([] : List UInt8), (((0 : Int), ((0 : Int), (0 : Int))), (([] : List Int), (([] : List zqq), (([] : List zqs), (([] : List Int), (([] : List t2y), (0 : Int))))))))))))).2).2).2).1, ((((((List.getD t110 (Int.toNat t112) ((0 : Int), ((0 : Int), ((0 : Int), ((0 : Int), (([] : List UInt8), (((0 : Int), ((0 : Int), (0 : Int))), (([] : List Int), (([] : List zqq), (([] : List zqs), (([] : List Int), (([] : List t2y), (0 : Int))))))))))))).2).2).2).2).1, ((((((((List.getD t110 (Int.toNat t112) ((0 : Int), ((0 : Int), ((0 : Int), ((0 : Int), (([] : List UInt8), (((0 : Int), ((0 : Int), (0 : Int))), (([] : List Int), (([] : List zqq), (([] : List zqs), (([] : List Int), (([] : List t2y), (0 : Int))))))))))))).2).2).2).2).2).1), (((((((List.getD t110 (Int.toNat t112) ((0 : Int), ((0 : Int), ((0 : Int), ((0 : Int), (([] : List UInt8), (((0 : Int), ((0 : Int), (0 : Int))), (([] : List Int), (([] : List zqq), (([] : List zqs), (([] : List Int), (([] : List t2y), (0 : Int))))))))))))).2).2).2).2).2).2))))))) pages (fun (rOf : zqu) (rOf2 : Int) =>
 zqzv ((List.getD t110 (Int.toNat t112) ((0 : Int), ((0 : Int), ((0 : Int), ((0 : Int), (([] : List UInt8), (((0 : Int), ((0 : Int), (0 : Int))), (([] : List Int), (([] : List zqq), (([] : List zqs), (([] : List Int), (([] : List t2y), (0 : Int))))))))))))).1, (((List.getD t110 (Int.toNat t112) ((0 : Int), ((0 : Int), ((0 : Int), ((0 : Int), (([] : List UInt8), (((0 : Int), ((0 : Int), (0 : Int))), (([] : List Int), (([] : List zqq), (([] : List zqs), (([] : List Int), (([] : List t2y), (0 : Int))))))))))))).2).1, ((((List.getD t110 (Int.toNat t112) ((0 : Int), ((0 : Int), ((0 : Int), ((0 : Int), (([] : List UInt8), (((0 : Int), ((0 : Int), (0 : Int))), (([] : List Int), (([] : List zqq), (([] : List zqs), (([] : List Int), (([] : List t2y), (0 : Int))))))))))))).2).2).1, (((((List.getD t110 (Int.toNat t112) ((0 : Int), ((0 : Int), ((0 : Int), ((0 : Int), (([] : List UInt8), (((0 : Int), ((0 : Int), (0 : Int))), (([] : List Int), (([] : List zqq), (([] : List zqs), (([] : List Int), (([] : List t2y), (0 : Int))))))))))))).2).2).2).1, ((((((List.getD t110 (Int.toNat t112) ((0 : Int), ((0 : Int), ((0 : Int), ((0 : Int), (([] : List UInt8), (((0 : Int), ((0 : Int), (0 : Int))), (([] : List Int), (([] : List zqq), (([] : List zqs), (([] : List Int), (([] : List t2y), (0 : Int))))))))))))).2).2).2).2).1, ((((((((List.getD t110 (Int.toNat t112) ((0 : Int), ((0 : Int), ((0 : Int), ((0 : Int), (([] : List UInt8), (((0 : Int), ((0 : Int), (0 : Int))), (([] : List Int), (([] : List zqq), (([] : List zqs), (([] : List Int), (([] : List t2y), (0 : Int))))))))))))).2).2).2).2).2).1), (((((((List.getD t110 (Int.toNat t112) ((0 : Int), ((0 : Int), ((0 : Int), ((0 : Int), (([] : List UInt8), (((0 : Int), ((0 : Int), (0 : Int))), (([] : List Int), (([] : List zqq), (([] : List zqs), (([] : List Int), (([] : List t2y), (0 : Int))))))))))))).2).2).2).2).2).2))))))) pages (fun (rOf3 : zqu) (rOf4 : Int) =>
 cond (!(decide (rOf.1 = rOf3.1) && (decide (rOf.2.1.1 = rOf3.2.1.1) && (decide (rOf.2.1.2 = rOf3.2.1.2) && (decide (rOf.2.2.1.1 = rOf3.2.2.1.1) && (decide (rOf.2.2.1.2 = rOf3.2.2.1.2) && (decide (rOf.2.2.2.1.1 = rOf3.2.2.2.1.1) && (decide (rOf.2.2.2.1.2 = rOf3.2.2.2.1.2) && (decide (rOf.2.2.2.2.1 = rOf3.2.2.2.2.1) && (decide (rOf.2.2.2.2.2.1 = rOf3.2.2.2.2.2.1) && (decide (rOf.2.2.2.2.2.2 = rOf3.2.2.2.2.2.2) && true)))))))))))
 (k1 false)
 (cond (!decide (rOf2 = rOf4))
 (k1 false)
 (rec raw times limit num den a b t111 (IntKind.i64.wrap (t112 + (1 : Int))) d pages t110)))))
 none)
 (k2 raw times limit num den a b d)
def zq1ra (m : Nat) {β : Type} (k1 : zq1qk β) (k2 : zq1ql β) : zq1qm β := lp12 (fun r => zq1r9 r k1 k2) none m
theorem zq1rb {β : Type} (i : Nat) (k1 k2) : zq1ra (β := β) (i + 1) k1 k2 = zq1r9 (zq1ra i k1 k2) k1 k2 := rfl
def zq1rc {β : Type} := hid (zq1ra (β := β) fuel)
noncomputable def zq1rd : Pb := ⟨8186, zq1qn, fun _ => zq1rc, pl (p := zq1qn) zq1qg [] (g := fun i _ => zq1ra i) (by kernel_rfl) rfl (by kernel_rfl) (fun _ _ => rfl) fun _ _ _ _ => by kernel_rfl⟩
def zq1re {β : Type} (rec : zq1qy β) (k1 : zq1qw β) (k2 : zq1qx β) : zq1qy β := fun raw times limit num den a b t147 t148 t162 t163 d z t146 t161 =>
 cond (decide (t163 < t162))
 (cond (decide (0 ≤ t163) && decide (t163 < (List.length t161 : Int)))
 (zq1m4 z ((List.getD t161 (Int.toNat t163) ((0 : Int), (0 : Int))).1) ((List.getD t161 (Int.toNat t163) ((0 : Int), (0 : Int))).2) (fun (rBetween : t0y) (rBetween2 : Int) =>
 zq1ft z ((List.getD t161 (Int.toNat t163) ((0 : Int), (0 : Int))).1) ((List.getD t161 (Int.toNat t163) ((0 : Int), (0 : Int))).2) (fun (rBetween3 : t0y) (rBetween4 : Int) =>
 cond (!(decide (rBetween.1 = rBetween3.1) && (decide (rBetween.2 = rBetween3.2) && true)))
 (k1 false)
 (cond (!decide (rBetween2 = rBetween4))
 (k1 false)
 (rec raw times limit num den a b t147 t148 t162 (IntKind.i64.wrap (t163 + (1 : Int))) d z t146 t161)))))
 none)
 (k2 raw times limit num den a b t147 t148 d t146)
def zq1rf (m : Nat) {β : Type} (k1 : zq1qw β) (k2 : zq1qx β) : zq1qy β := lp15 (fun r => zq1re r k1 k2) none m
theorem zq1rg {β : Type} (i : Nat) (k1 k2) : zq1rf (β := β) (i + 1) k1 k2 = zq1re (zq1rf i k1 k2) k1 k2 := rfl
def zq1rh {β : Type} := hid (zq1rf (β := β) fuel)
noncomputable def zq1ri : Pb := ⟨230, zq1qz, fun _ => zq1rh, pl (p := zq1qz) zq1qg [] (g := fun i _ => zq1rf i) (by kernel_rfl) rfl (by kernel_rfl) (fun _ _ => rfl) fun _ _ _ _ => by kernel_rfl⟩
def zq1rj {β : Type} (rec : zq1qq β) (k1 : zq1qo β) (k2 : zq1qp β) : zq1qq β := fun raw times limit num den a b t147 t148 d t146 =>
 cond (decide (t148 < t147))
 (cond (decide (0 ≤ t148) && decide (t148 < (List.length t146 : Int)))
 (zq1s (6 : Int) d (fun (rNext : Int) (mrNext : t1y) =>
 zq1s (5 : Int) mrNext (fun (rNext2 : Int) (mrNext2 : t1y) =>
 let l : List t0y := ([(a, b), ((IntKind.i64.wrap (rNext - (1 : Int))), rNext2)] : List t0y);
 zq1rh (fun (t16 : Bool) =>
 k1 t16) (fun (raw2 : List t0y) (times2 : List zqu) (limit2 : Int) (num2 : Int) (den2 : Int) (a2 : Int) (b2 : Int) (t1472 : Int) (t1482 : Int) (d2 : t1y) (t1462 : List zqo) =>
 rec raw2 times2 limit2 num2 den2 a2 b2 t1472 (IntKind.i64.wrap (t1482 + (1 : Int))) d2 t1462) raw times limit num den a b t147 t148 (List.length l : Int) (0 : Int) mrNext2 (List.getD t146 (Int.toNat t148) (([] : List t5y), (([] : List zqc), (([] : List zq8), ([] : List t2y))))) t146 l)))
 none)
 (k2 raw times limit num den d)
def zq1rk (m : Nat) {β : Type} (k1 : zq1qo β) (k2 : zq1qp β) : zq1qq β := lp11 (fun r => zq1rj r k1 k2) none m
theorem zq1rl {β : Type} (i : Nat) (k1 k2) : zq1rk (β := β) (i + 1) k1 k2 = zq1rj (zq1rk i k1 k2) k1 k2 := rfl
def zq1rm {β : Type} := hid (zq1rk (β := β) fuel)
noncomputable def zq1rn : Pb := ⟨32762, zq1qr, fun _ => zq1rm, pl (p := zq1qr) zq1qg [zq1ri] (g := fun i _ => zq1rk i) (by kernel_rfl) rfl (by kernel_rfl) (fun _ _ => rfl) fun _ _ _ _ => by kernel_rfl⟩
def zq1ro {β : Type} (rec : zq1r2 β) (k1 : zq1r0 β) (k2 : zq1r1 β) : zq1r2 β := fun times limit num den z t215 t216 t282 t283 d t214 t281 =>
 cond (decide (t283 < t282))
 (cond (decide (0 ≤ t283) && decide (t283 < (List.length t281 : Int)))
 (zq1g5 z ((List.getD t281 (Int.toNat t283) ((0 : Int), (0 : Int))).1) ((List.getD t281 (Int.toNat t283) ((0 : Int), (0 : Int))).2) (fun (rRank : t0y) (rRank2 : Int) =>
 zq10p z ((List.getD t281 (Int.toNat t283) ((0 : Int), (0 : Int))).1) ((List.getD t281 (Int.toNat t283) ((0 : Int), (0 : Int))).2) (fun (rRank3 : t0y) (rRank4 : Int) =>
 cond (!(decide (rRank.1 = rRank3.1) && (decide (rRank.2 = rRank3.2) && true)))
 (k1 false)
 (cond (!decide (rRank2 = rRank4))
 (k1 false)
 (rec times limit num den z t215 t216 t282 (IntKind.i64.wrap (t283 + (1 : Int))) d t214 t281)))))
 none)
 (k2 times limit num den t215 t216 d t214)
def zq1rp (m : Nat) {β : Type} (k1 : zq1r0 β) (k2 : zq1r1 β) : zq1r2 β := lp12 (fun r => zq1ro r k1 k2) none m
theorem zq1rq {β : Type} (i : Nat) (k1 k2) : zq1rp (β := β) (i + 1) k1 k2 = zq1ro (zq1rp i k1 k2) k1 k2 := rfl
def zq1rr {β : Type} := hid (zq1rp (β := β) fuel)
noncomputable def zq1rs : Pb := ⟨7422, zq1r3, fun _ => zq1rr, pl (p := zq1r3) zq1qg [] (g := fun i _ => zq1rp i) (by kernel_rfl) rfl (by kernel_rfl) (fun _ _ => rfl) fun _ _ _ _ => by kernel_rfl⟩
def zq1rt {β : Type} (rec : zq1qu β) (k1 : zq1qs β) (k2 : zq1qt β) : zq1qu β := fun times limit num den t215 t216 d t214 =>
 cond (decide (t216 < t215))
 (cond (decide (0 ≤ t216) && decide (t216 < (List.length t214 : Int)))
 (let z : List t0y := (List.getD t214 (Int.toNat t216) ([] : List t0y));
 zq1fx z (fun (rSum : t0y) (rSum2 : Int) =>
 zq108 z (fun (rSum3 : t0y) (rSum4 : Int) =>
 zq1g1 z (fun (rMean : t0y) (rMean2 : t0y) (rMean3 : Int) =>
 zq10c z (fun (rMean4 : t0y) (rMean5 : t0y) (rMean6 : Int) =>
 cond (!(decide (rSum.1 = rSum3.1) && (decide (rSum.2 = rSum3.2) && true)))
 (k1 false)
 (cond (!decide (rSum2 = rSum4))
 (k1 false)
 (cond (!(decide (rMean.1 = rMean4.1) && (decide (rMean.2 = rMean4.2) && true)))
 (k1 false)
 (cond (!(decide (rMean2.1 = rMean5.1) && (decide (rMean2.2 = rMean5.2) && true)))
 (k1 false)
 (cond (!decide (rMean3 = rMean6))
 (k1 false)
 (zq1s (5 : Int) d (fun (rNext : Int) (mrNext : t1y) =>
 zq1s (5 : Int) mrNext (fun (rNext2 : Int) (mrNext2 : t1y) =>
 let l : List Int := ([(500 : Int), (1000 : Int), (1001 : Int)] : List Int);
 zq2a l mrNext2 (fun (rOne : Int) (mrOne : t1y) =>
 let l2 : List Int := ([(1000 : Int), (1001 : Int)] : List Int);
 zq2a l2 mrOne (fun (rOne2 : Int) (mrOne2 : t1y) =>
 let l3 : List t0y := ([(num, den), ((IntKind.i64.wrap (rNext - (1 : Int))), rNext2), (rOne, rOne2)] : List t0y);
 zq1rr (fun (t16 : Bool) =>
 k1 t16) (fun (times2 : List zqu) (limit2 : Int) (num2 : Int) (den2 : Int) (t2152 : Int) (t2162 : Int) (d2 : t1y) (t2142 : List t10y) =>
 rec times2 limit2 num2 den2 t2152 (IntKind.i64.wrap (t2162 + (1 : Int))) d2 t2142) times limit num den z t215 t216 (List.length l3 : Int) (0 : Int) mrOne2 t214 l3))))))))))))))
 none)
 (k2 times limit)
def zq1ru (m : Nat) {β : Type} (k1 : zq1qs β) (k2 : zq1qt β) : zq1qu β := lp8 (fun r => zq1rt r k1 k2) none m
theorem zq1rv {β : Type} (i : Nat) (k1 k2) : zq1ru (β := β) (i + 1) k1 k2 = zq1rt (zq1ru i k1 k2) k1 k2 := rfl
def zq1rw {β : Type} := hid (zq1ru (β := β) fuel)
noncomputable def zq1rx : Pb := ⟨262138, zq1qv, fun _ => zq1rw, pl (p := zq1qv) zq1qg [zq1rs] (g := fun i _ => zq1ru i) (by kernel_rfl) rfl (by kernel_rfl) (fun _ _ => rfl) fun _ _ _ _ => by kernel_rfl⟩
def zq1ry : zq1qf := fun t raw times limit num den a b k =>
 zq1k t (fun (rLight : Bool) =>
 cond (!rLight)
 (zq1i3  (fun (rsane : Bool) =>
 k rsane))
 (cond (decide ((300 : Int) < (List.length raw : Int)))
 (zq1i3  (fun (rsane : Bool) =>
 k rsane))
 (cond (decide ((100 : Int) < (List.length times : Int)))
 (zq1i3  (fun (rsane : Bool) =>
 k rsane))
 (zq1o t (fun (mrRoll : t1y) =>
 zqnh mrRoll (fun (rCrew : zqm) (mrCrew : t1y) =>
 zqoi mrCrew (fun (rBook : zq4) (mrBook : t1y) =>
 zq18d (1 : Int) (8 : Int) mrBook (fun (rIncident : zqw) (mrIncident : t1y) =>
 zq1s (4 : Int) mrIncident (fun (rNext : Int) (mrNext : t1y) =>
 zq1r7 (fun (raw2 : List t0y) (times2 : List zqu) (limit2 : Int) (num2 : Int) (den2 : Int) (a2 : Int) (b2 : Int) (d : t1y) (x : zqw) (pages : List zqy) =>
 let l : List zqw := ([x, (x.1, (x.2.1, ((0 : Int), x.2.2.2)))] : List zqw);
 zq1rc (fun (t16 : Bool) =>
 k t16) (fun (raw3 : List t0y) (times3 : List zqu) (limit3 : Int) (num3 : Int) (den3 : Int) (a3 : Int) (b3 : Int) (d2 : t1y) =>
 zqpp (5 : Int) d2 (fun (rRecord : zqo) (mrRecord : t1y) (lrRecord : List Int) =>
 zqq0 rRecord mrRecord (fun (rOddRecord : zqo) (mrOddRecord : t1y) =>
 let l2 : List zqo := ([rRecord, rOddRecord] : List zqo);
 zq1rm (fun (t16 : Bool) =>
 k t16) (fun (raw4 : List t0y) (times4 : List zqu) (limit4 : Int) (num4 : Int) (den4 : Int) (d3 : t1y) =>
 zq25 d3 (fun (mrranges : t1y) (lrranges : List t0y) (lrranges2 : List Int) =>
 cond (decide (List.length lrranges * 16 ≤ Q5))
 (let l3 : List Int := ([(0 : Int), (-1 : Int), (5 : Int)] : List Int);
 zq2a l3 mrranges (fun (rOne : Int) (mrOne : t1y) =>
 let l4 : List Int := ([(4 : Int), (9 : Int), (1099511627776 : Int), (1099511627777 : Int)] : List Int);
 zq2a l4 mrOne (fun (rOne2 : Int) (mrOne2 : t1y) =>
 let l5 : List t0y := ([(rOne, rOne2)] : List t0y);
 cond (decide ((List.length lrranges + List.length l5) * 16 ≤ Q5))
 (let l6 : List t0y := (lrranges ++ l5);
 let l7 : List t10y := ([lrranges, l6, raw4, ([] : List t0y)] : List t10y);
 zq1rw (fun (t16 : Bool) =>
 k t16) (fun (times5 : List zqu) (limit5 : Int) =>
 zq2s times5 limit5 (fun (rWithin : Int) (rWithin2 : Int) =>
 zq3a times5 limit5 (fun (rWithin3 : Int) (rWithin4 : Int) =>
 cond (decide (rWithin = rWithin3))
 (cond (decide (rWithin2 = rWithin4))
 (zq1i3  (fun (rsane : Bool) =>
 k rsane))
 (k false))
 (k false)))) times4 limit4 num4 den4 (List.length l7 : Int) (0 : Int) mrOne2 l7)
 none)))
 none)) raw3 times3 limit3 num3 den3 a3 b3 (List.length l2 : Int) (0 : Int) mrOddRecord l2))) raw2 times2 limit2 num2 den2 a2 b2 (List.length l : Int) (0 : Int) d pages l) raw times limit num den a b rNext mrNext rCrew rBook rIncident ([] : List zqy))))))))))
def zq1rz : zq1qf := hid zq1ry
noncomputable def zq1s0 : En := ⟨3, .spec (sg [b42y, b31y, b44y, b27y, b27y, b27y, b27y, b27y] [] [b30y] [] zq1rz), pf zq1qg [zq1r8, zq1rd, zq1rn, zq1rx] [.tmp 16] Tryz.func3 (by kernel_rfl) fun _ _ => by kernel_rfl⟩
theorem zq1s1 : SpecOk Tryz.prog 3 (sg [b42y, b31y, b44y, b27y, b27y, b27y, b27y, b27y] [] [b30y] [] zq1rz) := zq1s0.ok
end
end Go.Lift
namespace Go.Lift
open Go.RowKit Go.IntWalk
section
variable {β : Type}
theorem Q6 {i n : Int} {a b : Option β} (h : 0 ≤ i ∧ i < n) : cond (decide (0 ≤ i) && decide (i < n)) a b = a := by
 rw [decide_eq_true h.1, decide_eq_true h.2]; rfl
theorem Q1c {n : Nat} {a b : Option β} (h : n ≤ 140737488355328) : cond (decide (n ≤ Q5)) a b = a := by
 rw [decide_eq_true (p := n ≤ Q5) h]; rfl
theorem Q8 {p : Prop} [Decidable p] {a b : Option β} (h : p) : cond (decide p) a b = a := by rw [decide_eq_true h]; rfl
theorem Qa {p : Prop} [Decidable p] {a b : Option β} (h : ¬ p) : cond (decide p) a b = b := by rw [decide_eq_false h]; rfl
theorem Q3f {p : Prop} [Decidable p] {a b : Option β} (h : p) : cond (!decide p) a b = b := by rw [decide_eq_true h]; rfl
theorem Q1d {p : Prop} [Decidable p] {a b : Option β} (h : ¬ p) : cond (!decide p) a b = a := by rw [decide_eq_false h]; rfl
theorem c_t {a b : Option β} : cond true a b = a := rfl
theorem c_f {a b : Option β} : cond false a b = b := rfl
theorem c_p3 {p q r : Prop} [Decidable p] [Decidable q] [Decidable r] {a b : Option β} (hp : p) (hq : q) (hr : r) : cond (decide p && (decide q && decide r)) a b = a := by rw [decide_eq_true hp, decide_eq_true hq, decide_eq_true hr]; rfl
theorem Q32 {p : Bool} {a b : Option β} : cond (!p) a b = cond p b a := by cases p <;> rfl
theorem Q9r {p q : Bool} {a b : Option β} : cond p (cond q a b) b = cond (p && q) a b := by cases p <;> rfl
theorem Qnu {p q : Bool} {a b : Option β} : cond p (cond q b a) b = cond (p && !q) a b := by cases p <;> cases q <;> rfl
theorem Qjf {p q : Bool} {a b : Option β} : cond p b (cond q a b) = cond (!p && q) a b := by cases p <;> rfl
theorem c_k {γ : Type} (k : γ → Option β) (p : Bool) (x y : γ) : cond p (k x) (k y) = k (cond p x y) := by cases p <;> rfl
theorem c_kb (k : Bool → Option β) (p q : Bool) : cond p (k q) (k false) = k (p && q) := by cases p <;> rfl
theorem k_eq {γ : Type} {k : γ → Option β} {x y : γ} (h : x = y) : k x = k y := by rw [h]
def walk {α σ ε : Type} (g : Nat → α → σ → ε ⊕ σ) : List α → Nat → σ → ε ⊕ σ
 | [], _, s => .inr s
 | x :: r, j, s =>
  match g j x s with
  | .inl e => .inl e
  | .inr s' => walk g r (j + 1) s'
def sumK {ε σ : Type} (E : ε → Option β) (K : σ → Option β) : ε ⊕ σ → Option β
 | .inl e => E e
 | .inr s => K s
theorem Qd3 {α σ ε : Type} (F : Nat → Int → σ → Option β) (g : Nat → α → σ → ε ⊕ σ) (E : ε → Option β) (K : σ → Option β) (d : α) (xs : List α)
  (h1 : ∀ (m i : Nat) s, i < xs.length → F (m + 1) (i : Int) s = sumK E (fun s' => F m ((i : Int) + 1) s') (g i (xs.getD i d) s))
  (h2 : ∀ (m : Nat) s, F (m + 1) (xs.length : Int) s = K s) :
  ∀ (r : List α) (j fuel : Nat) (s : σ), xs.drop j = r → j + r.length = xs.length → r.length < fuel → F fuel (j : Int) s = sumK E K (walk g r j s)
 | r, j, 0, s, _, _, h => absurd h (Nat.not_lt_zero _)
 | [], j, m + 1, s, hd, hj, _ => by
  simp only [List.length_nil, Nat.add_zero] at hj
  subst hj
  rw [h2]; rfl
 | x :: r, j, m + 1, s, hd, hj, hm => by
  simp only [List.length_cons] at hj hm
  have h3 : j < xs.length := by omega
  have hx : xs.getD j d = x := by
   rw [List.drop_eq_getElem_cons h3] at hd
   injection hd with hd1 hd2
   simp [List.getD, h3, hd1]
  have hr : xs.drop (j + 1) = r := by
   rw [List.drop_eq_getElem_cons h3] at hd
   injection hd with hd1 hd2
  rw [h1 m j s h3, hx, walk]
  cases hg : g j x s with
  | inl e => rfl
  | inr s' =>
   simp only [sumK]
   exact Qd3 F g E K d xs h1 h2 r (j + 1) m s' hr (by omega) (by omega)
theorem Qbo {α σ ε : Type} (F : Nat → Int → σ → Option β) (g : Nat → α → σ → ε ⊕ σ) (E : ε → Option β) (K : σ → Option β) (d : α) (xs : List α) (s : σ) (n : Nat) (hn : xs.length < n)
  (h1 : ∀ (m i : Nat) s, i < xs.length → F (m + 1) (i : Int) s = sumK E (fun s' => F m ((i : Int) + 1) s') (g i (xs.getD i d) s))
  (h2 : ∀ (m : Nat) s, F (m + 1) (xs.length : Int) s = K s) : F n 0 s = sumK E K (walk g xs 0 s) :=
 Qd3 F g E K d xs h1 h2 xs 0 n s rfl (by simp) hn
theorem Qk {α : Type} (F : Nat → Int → Option β) (p : α → Bool) (E K : Option β) (d : α) (xs : List α) (n : Nat) (hn : xs.length < n)
  (h1 : ∀ (m i : Nat), i < xs.length → F (m + 1) (i : Int) = cond (p (xs.getD i d)) (F m ((i : Int) + 1)) E)
  (h2 : ∀ (m : Nat), F (m + 1) (xs.length : Int) = K) : F n 0 = cond (xs.all p) K E := by
 have h := Qbo (ε := Unit) (fun m i (_ : Unit) => F m i) (fun _ x s => cond (p x) (.inr s) (.inl ())) (fun _ => E) (fun _ => K) d xs () n hn
  (fun m i s hi => by rw [h1 m i hi]; cases p (xs.getD i d) <;> rfl) (fun m s => h2 m)
 rw [h]
 have key : ∀ (l : List α) (j : Nat), sumK (fun _ => E) (fun _ => K) (walk (ε := Unit) (fun _ x (s : Unit) => cond (p x) (.inr s) (.inl ())) l j ()) = cond (l.all p) K E := by
  intro l
  induction l with
  | nil => intro j; rfl
  | cons x l ih =>
   intro j
   simp only [walk, List.all_cons]
   cases p x with
   | true => simpa using ih (j + 1)
   | false => rfl
 exact key xs 0
theorem Q3z {α σ : Type} (F : Nat → Int → σ → Option β) (g : σ → α → σ) (K : σ → Option β) (d : α) (xs : List α) (s : σ) (n : Nat) (hn : xs.length < n)
  (h1 : ∀ (m i : Nat) s, i < xs.length → F (m + 1) (i : Int) s = F m ((i : Int) + 1) (g s (xs.getD i d)))
  (h2 : ∀ (m : Nat) s, F (m + 1) (xs.length : Int) s = K s) : F n 0 s = K (xs.foldl g s) := by
 have h := Qbo (ε := Empty) F (fun _ x s => .inr (g s x)) (fun e => e.elim) K d xs s n hn (fun m i s hi => h1 m i s hi) h2
 rw [h]
 have key : ∀ (l : List α) (j : Nat) (s : σ), sumK (fun e : Empty => e.elim) K (walk (fun _ x s => .inr (g s x)) l j s) = K (l.foldl g s) := by
  intro l
  induction l with
  | nil => intro j s; rfl
  | cons x l ih => intro j s; exact ih (j + 1) (g s x)
 exact key xs 0 s
theorem Q1i {α σ : Type} (I : Nat → σ → Prop) (F : Nat → Int → σ → Option β) (g : σ → α → σ) (K : σ → Option β) (d : α) (xs : List α) (s : σ) (n : Nat) (hn : xs.length < n) (h0 : I 0 s)
  (hI : ∀ (i : Nat) s, i < xs.length → I i s → I (i + 1) (g s (xs.getD i d)))
  (h1 : ∀ (m i : Nat) s, i < xs.length → I i s → F (m + 1) (i : Int) s = F m ((i : Int) + 1) (g s (xs.getD i d)))
  (h2 : ∀ (m : Nat) s, I xs.length s → F (m + 1) (xs.length : Int) s = K s) : F n 0 s = K (xs.foldl g s) := by
 have key : ∀ (r : List α) (j fuel : Nat) (s : σ), xs.drop j = r → j + r.length = xs.length → r.length < fuel → I j s → F fuel (j : Int) s = K (r.foldl g s) := by
  intro r
  induction r with
  | nil =>
   intro j fuel s hd hj hf hs
   obtain ⟨m, rfl⟩ : ∃ m, fuel = m + 1 := ⟨fuel - 1, by omega⟩
   simp only [List.length_nil, Nat.add_zero] at hj
   subst hj
   exact h2 m s hs
  | cons x r ih =>
   intro j fuel s hd hj hf hs
   obtain ⟨m, rfl⟩ : ∃ m, fuel = m + 1 := ⟨fuel - 1, by omega⟩
   simp only [List.length_cons] at hj hf
   have h3 : j < xs.length := by omega
   have hx : xs.getD j d = x := by
    rw [List.drop_eq_getElem_cons h3] at hd
    injection hd with hd1 hd2
    simp [List.getD, h3, hd1]
   have hr : xs.drop (j + 1) = r := by
    rw [List.drop_eq_getElem_cons h3] at hd
    injection hd with hd1 hd2
   rw [h1 m j s h3 hs, hx]
   have := hI j s h3 hs
   rw [hx] at this
   exact ih (j + 1) m (g s x) hr (by omega) (by omega) this
 exact key xs 0 n s rfl (by simp) hn h0
end
end Go.Lift
