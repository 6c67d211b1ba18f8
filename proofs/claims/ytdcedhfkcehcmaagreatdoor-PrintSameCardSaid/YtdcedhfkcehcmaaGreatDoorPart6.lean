/- Part6: LiftLi. -/
import Derived.Shelf.Vars
import Derived.Shelf.Strings.Cut
import Derived.Shelf.Strings.Search3
import Derived.Shelf.Strings.Split
import Derived.Shelf.Strings.Repeat
import Derived.Shelf.Strings.FieldsAny
import Derived.Shelf.Strconv.AtoiAll
import Derived.Shelf.Strconv.Itoa3
import Derived.Test.YtdcedhfkcehcmaaGreatDoorPart5
set_option linter.unusedVariables false
set_option linter.unusedSectionVars false
set_option linter.unusedSimpArgs false
namespace Go.Lift
open Go.RowKit Go.Shelf Go.Proofs
@[reducible] def Q34 (ps rs : List (Bool × List CT)) (c : {β : Type} → ST.dens ps → (ST.dens rs → Option β) → Option β) : Spec :=
 ⟨ps, [], rs, [], fun x k => c x.1 (fun y => k (y, ()))⟩
theorem Qkh {P : Program} {f : FuncId} {ps rs : List (Bool × List CT)} {c : {β : Type} → ST.dens ps → (ST.dens rs → Option β) → Option β}
  (hfn : ∃ fn, P.funcs[f]? = some fn ∧ (fn.name == "runtime.NumGoroutine") = false ∧ fn.body.isNone = false)
  (h : ∀ {β : Type} (x : ST.dens ps) (k : ST.dens rs → Option β) (r : β), c x k = some r → ∃ y, k y = some r ∧ ∀ (E : Env) (args : List Value), GlobR P none E.w → TReps E (mkS [] ps x) args →
   Calls P f args.toArray E.w fun e w' => ∃ vals, e = .returned (Q24 vals) ∧ Below E.w.heap.size E.w w' ∧ ∀ E' : Env, E'.w = w' → (∀ g, E.w.heap.size ≤ g → E'.ok g) → TReps E' (mkS [] rs y) vals) : SpecOk P f (Q34 ps rs c) := by
 refine ⟨hfn, fun {β} x k r hr => ?_⟩
 obtain ⟨y, hy, hc⟩ := h x.1 (fun y => k (y, ())) r hr
 refine ⟨(y, ()), hy, fun ok0 pl w args hrel hargs => ?_⟩
 have hnone : ∀ i, fnBl (mkB (Q1 0 (Q34 ps rs c).ins.length) (Q34 ps rs c).ins x.2) i = none := fun i => rfl
 refine (hc (Q0 ok0 w.heap.size pl (fnBl (mkB (Q1 0 (Q34 ps rs c).ins.length) (Q34 ps rs c).ins x.2)) w) args (hrel.glob.row fun g hg => by cases hg) hargs).mono fun e w' ⟨vals, he, hb, ht⟩ => ?_
 have hb : Below w.heap.size w w' := hb
 have hown : ∀ (p : Nat → Option Pl) g, ¬ Own p (fnBl (mkB (Q1 0 (Q34 ps rs c).outs.length) (Q34 ps rs c).outs ())) g := fun p g ⟨i, B, q, hB, _⟩ => by cases hB
 exact ⟨vals, pl, he, ⟨hb.size, fun i B hB => (by cases hB), fun i j B C p q g _ hB => (by cases hB), hrel.fresh, hrel.glob.out hb.size fun g hg _ => ⟨hb.block g hg, hown _ g⟩⟩,
  ⟨hb.os, hb.tape, hb.output, hb.size, fun g hg _ => ⟨hb.block g hg, hown _ g⟩, fun b g _ h => h, fun b sv svs _ h => ⟨sv, svs, h⟩⟩, ht _ rfl fun g hg => ⟨.inr ⟨hg, fun hn => absurd (hrel.glob.no g hn).1 (Nat.not_lt.2 hg)⟩, hown _ g⟩⟩
theorem Q7f {P : Program} {f : FuncId} {ps rs : List (Bool × List CT)} {c : {β : Type} → ST.dens ps → (ST.dens rs → Option β) → Option β}
  (hfn : ∃ fn, P.funcs[f]? = some fn ∧ (fn.name == "runtime.NumGoroutine") = false ∧ fn.body.isNone = false)
  (h : ∀ {β : Type} (x : ST.dens ps) (k : ST.dens rs → Option β) (r : β), c x k = some r → ∃ y, k y = some r ∧ ∀ (E : Env) (args : List Value), GlobR P none E.w → TReps E (mkS [] ps x) args →
   Calls P f args.toArray E.w fun e w' => ∃ vals, e = .returned (Q24 vals) ∧ Below E.w.heap.size E.w w' ∧ ∀ E' : Env, TReps E' (mkS [] rs y) vals) : SpecOk P f (Q34 ps rs c) :=
 Qkh hfn fun x k r hr => by
  obtain ⟨y, hy, hc⟩ := h x k r hr
  exact ⟨y, hy, fun E args hG hargs => (hc E args hG hargs).mono fun e w' ⟨vals, he, hb, ht⟩ => ⟨vals, he, hb, fun E' _ _ => ht E'⟩⟩
theorem GlobR.tab {P : Program} {o : Option Nat} {w : World} (h : GlobR P o w) {x : String × IntKind × List Int} (hx : x ∈ Q4x) {g : Nat} (hg : P.globalNamed x.1 = some g) : Lib.TabIs P w x.1 x.2.1 x.2.2 := by
 obtain ⟨w0, h1, _, h3⟩ := h
 have ht := h1.tabs x hx (by rw [hg]; rfl)
 unfold Lib.TabIs World.var? at ht ⊢
 rw [hg] at ht ⊢
 simp only [Option.bind_some] at ht ⊢
 have hlt : g < w0.heap.size := by
  split at ht
  ·rename_i cs _ _ hc; exact (Array.getElem?_eq_some_iff.1 hc).1
  ·cases ht
 rw [(h3 g hlt).1]
 exact ht
theorem GlobR.cell {P : Program} {o : Option Nat} {w : World} (h : GlobR P o w) {g : Nat} (_hg : g < P.globals.size) {Q : Value → Prop} (hq : ∀ w0 : World, w0.ShapedOpen P → ∃ v, w0.cell? ⟨g, 0, none⟩ = some v ∧ Q v) :
  ∃ v, w.cell? ⟨g, 0, none⟩ = some v ∧ Q v := by
 obtain ⟨w0, h1, _, h3⟩ := h
 obtain ⟨v, hv, hQ⟩ := hq w0 h1.open_
 exact ⟨v, (World.cell?_of_block (h3 g (World.block_lt_of_cell? w0 _ hv)).1).trans hv, hQ⟩
theorem GlobR.err {P : Program} {o : Option Nat} {w : World} (h : GlobR P o w) {n : String} (hn : n ∈ Q4y) {g : Nat} (hg : P.globalNamed n = some g) : ∃ t u, w.cell? ⟨g, 0, none⟩ = some (.iface t u) := by
 obtain ⟨w0, h1, _, h3⟩ := h
 obtain ⟨t, u, ht⟩ := h1.errs n hn (by rw [hg]; rfl)
 have hc := World.var?_cell hg ht 0
 refine ⟨t, u, ?_⟩
 rw [World.cell?_of_block (w := w0) (h3 g (World.block_lt_of_cell? w0 ⟨g, 0, none⟩ (by rw [hc]; rfl))).1, hc]
 rfl
theorem ReadsAt.keep {w0 w : World} (h : ∀ g, g < w0.heap.size → w.heap[g]? = w0.heap[g]?) {b o : Nat} {vs : List Value} (hr : ReadsAt w0 b o vs) : ReadsAt w b o vs := fun i v hv => by
 have hc := hr i v hv
 exact (World.cell?_of_block (h b (World.block_lt_of_cell? w0 _ hc))).trans hc
theorem GlobR.white {P : Program} {o : Option Nat} {w : World} (h : GlobR P o w) {g : Nat} (hg : P.globalNamed "unicode.White_Space" = some g) : Q9v g w := by
 obtain ⟨w0, h1, _, h3⟩ := h
 obtain ⟨T, oT, R, oR, a, b, c⟩ := h1.white g hg
 have k : ∀ g, g < w0.heap.size → w.heap[g]? = w0.heap[g]? := fun g hl => (h3 g hl).1
 exact ⟨T, oT, R, oR, a.keep k, b.keep k, c.keep k⟩
theorem TReps.str_inv {E : Env} {s : List UInt8} {ts : List (Bool × List C)} {args : List Value} (h : TReps E ((false, [.str s]) :: ts) args) : ∃ rst, args = .string ⟨s.toArray⟩ :: rst ∧ TReps E ts rst := by
 obtain ⟨v, vs, e, ⟨us, ⟨u, us', e1, h1, h2⟩, h3⟩, h4⟩ := h
 simp only [CReps] at h2
 simp only [CRep] at h1
 simp only [Bool.false_eq_true, if_false] at h3
 subst h2 h1 e1
 simp only [List.cons.injEq, and_true] at h3
 subst h3
 exact ⟨vs, e, h4⟩
theorem TReps.int_inv {E : Env} {k : IntKind} {n : Int} {ts : List (Bool × List C)} {args : List Value} (h : TReps E ((false, [.int k n]) :: ts) args) : ∃ rst, args = .int k n :: rst ∧ TReps E ts rst := by
 obtain ⟨v, vs, e, ⟨us, ⟨u, us', e1, h1, h2⟩, h3⟩, h4⟩ := h
 simp only [CReps] at h2
 simp only [CRep] at h1
 simp only [Bool.false_eq_true, if_false] at h3
 subst h2 h1 e1
 simp only [List.cons.injEq, and_true] at h3
 subst h3
 exact ⟨vs, e, h4⟩
theorem TReps.str1 {E : Env} {s : List UInt8} {ts : List (Bool × List C)} {vals : List Value} (h : TReps E ts vals) : TReps E ((false, [.str s]) :: ts) (.string ⟨s.toArray⟩ :: vals) :=
 ⟨_, _, rfl, ⟨[_], ⟨_, _, rfl, rfl, rfl⟩, by simp⟩, h⟩
theorem TReps.bool1 {E : Env} {b : Bool} {ts : List (Bool × List C)} {vals : List Value} (h : TReps E ts vals) : TReps E ((false, [.bool b]) :: ts) (.bool b :: vals) :=
 ⟨_, _, rfl, ⟨[_], ⟨_, _, rfl, rfl, rfl⟩, by simp⟩, h⟩
theorem TReps.err1 {E : Env} {b : Bool} {v : Value} {ts : List (Bool × List C)} {vals : List Value} (hv : errRep b v) (h : TReps E ts vals) : TReps E ((false, [.err b]) :: ts) (v :: vals) :=
 ⟨_, _, rfl, ⟨[v], ⟨_, _, rfl, hv, rfl⟩, by simp⟩, h⟩
abbrev cutT := {β : Type} → List UInt8 → List UInt8 → (List UInt8 → List UInt8 → Bool → Option β) → Option β
@[reducible] def cutS (c : cutT) : Spec := Q34 [(false, [.data .str]), (false, [.data .str])] [(false, [.data .str]), (false, [.data .str]), (false, [.data .bool])] fun x k => c x.1.1 x.2.1.1 fun r0 r1 r2 => k ((r0, ()), (r1, ()), (r2, ()), ())
def cutF : cutT := fun s sep k => cond (decide (s.length < 4294967281)) (k (Lib.cut s sep).1 (Lib.cut s sep).2.1 (Lib.cut s sep).2.2) none
theorem Qmd {P : Program} {ρ : Shelf.Ren} {f : FuncId} (L : Lays.n145 P ρ) (hf : ρ.f 145 = f) (hg : ρ.g 1 < P.globals.size)
  (hm : ∀ w0 : World, w0.ShapedOpen P → ∃ m, w0.cell? ⟨ρ.g 1, 0, none⟩ = some (.int .i64 m))
  (hfn : ∃ fn, P.funcs[f]? = some fn ∧ (fn.name == "runtime.NumGoroutine") = false ∧ fn.body.isNone = false) : SpecOk P f (cutS cutF) := by
 subst hf
 refine Q7f hfn fun {β} x k r hr => ?_
 obtain ⟨⟨s, _⟩, ⟨sep, _⟩, _⟩ := x
 simp only [cutF] at hr
 cases hd : decide (s.length < 4294967281) with
 | false => rw [hd] at hr; cases hr
 | true =>
  rw [hd, cond_true] at hr
  have hlen := of_decide_eq_true hd
  refine ⟨_, hr, fun E args hG hargs => ?_⟩
  obtain ⟨rst, rfl, h2⟩ := TReps.str_inv hargs
  obtain ⟨rst2, rfl, h3⟩ := TReps.str_inv h2
  have : rst2 = [] := h3
  subst this
  obtain ⟨v, hv, m, rfl⟩ := hG.cell hg (Q := fun v => ∃ m, v = .int .i64 m) fun w0 h0 => by obtain ⟨m, h⟩ := hm w0 h0; exact ⟨_, h, m, rfl⟩
  refine (Any.strings_Cut L ⟨s.toArray⟩ ⟨sep.toArray⟩ m E.w (by simpa [ByteArray.size] using hlen) hv).mono fun e w' ⟨he, n, hw⟩ => ?_
  subst hw
  exact ⟨[_, _, _], he, ⟨rfl, rfl, rfl, Nat.le_refl _, fun _ _ => rfl⟩, fun E' => TReps.str1 (TReps.str1 (TReps.bool1 rfl))⟩
abbrev Qii := {β : Type} → Int → (List UInt8 → Option β) → Option β
@[reducible] def Ql7 (c : Qii) : Spec := Q34 [(false, [.data (.int .i64)])] [(false, [.data .str])] fun x k => c x.1.1 fun r0 => k ((r0, ()), ())
def Qij : Qii := fun n k => cond (decide (-9223372036854775808 ≤ n) && decide (n ≤ 9223372036854775807)) (k (Lib.itoa n)) none
theorem Qik {w : World} {k : Nat} {os : Array Obj} : Below w.heap.size w (Go.Sort.grow (w.drewN k) os) := by
 refine ⟨rfl, rfl, rfl, ?_, fun i hi => ?_⟩
 ·show w.heap.size ≤ (w.heap ++ os).size
  simp
 ·show (w.heap ++ os)[i]? = w.heap[i]?
  rw [Array.getElem?_append_left hi]
theorem Qlh {P : Program} {ρ : Shelf.Ren} {f : FuncId} (L : LaysM.n171 P ρ) (hf : ρ.f 171 = f) {g : Nat} (hg : P.globalNamed "internal/strconv.uint64pow10" = some g)
  (hfn : ∃ fn, P.funcs[f]? = some fn ∧ (fn.name == "runtime.NumGoroutine") = false ∧ fn.body.isNone = false) : SpecOk P f (Ql7 Qij) := by
 subst hf
 refine Q7f hfn fun {β} x k r hr => ?_
 obtain ⟨⟨n, _⟩, _⟩ := x
 simp only [Qij] at hr
 cases hd : (decide (-9223372036854775808 ≤ n) && decide (n ≤ 9223372036854775807)) with
 | false => rw [hd] at hr; cases hr
 | true =>
  rw [hd, cond_true] at hr
  obtain ⟨h1, h2⟩ := andB hd
  refine ⟨_, hr, fun E args hG hargs => ?_⟩
  obtain ⟨rst, rfl, h3⟩ := TReps.int_inv hargs
  have : rst = [] := h3
  subst this
  refine (Any.strconv_Itoa L n (of_decide_eq_true h1) (of_decide_eq_true h2) E.w (hG.tab (x := ("internal/strconv.uint64pow10", .u64, Lib.pow10Tab)) (by simp [Q4x]) hg)).mono fun e w' ⟨he, q, os, hw⟩ => ?_
  subst hw
  exact ⟨[_], he, Qik, fun E' => TReps.str1 rfl⟩
abbrev Qil := {β : Type} → List UInt8 → (Int → Bool → Option β) → Option β
@[reducible] def Ql8 (c : Qil) : Spec := Q34 [(false, [.data .str])] [(false, [.data (.int .i64)]), (false, [.data .err])] fun x k => c x.1.1 fun r0 r1 => k ((r0, ()), (r1, ()), ())
def Q6k (s : List UInt8) : Int × Bool :=
 match Lib.atoiAll s with
 | .ok v => (v, true)
 | .range => (Lib.atoiSat s, false)
 | _ => (0, false)
def Qim : Qil := fun s k => cond (decide (s.length ≤ 281474976710656)) (k (Q6k s).1 (Q6k s).2) none
theorem Qli {P : Program} {ρ : Shelf.Ren} {f : FuncId} (L : LaysC.n172 P ρ) (hf : ρ.f 172 = f) (h15 : P.globalNamed "strconv.ErrSyntax" = some (ρ.g 15)) (h16 : P.globalNamed "strconv.ErrRange" = some (ρ.g 16))
  (hfn : ∃ fn, P.funcs[f]? = some fn ∧ (fn.name == "runtime.NumGoroutine") = false ∧ fn.body.isNone = false) : SpecOk P f (Ql8 Qim) := by
 subst hf
 refine Q7f hfn fun {β} x k r hr => ?_
 obtain ⟨⟨s, _⟩, _⟩ := x
 simp only [Qim] at hr
 cases hd : decide (s.length ≤ 281474976710656) with
 | false => rw [hd] at hr; cases hr
 | true =>
  rw [hd, cond_true] at hr
  have hlen := of_decide_eq_true hd
  refine ⟨_, hr, fun E args hG hargs => ?_⟩
  obtain ⟨rst, rfl, h3⟩ := TReps.str_inv hargs
  have : rst = [] := h3
  subst this
  have hs : (⟨s.toArray⟩ : ByteArray).size = s.length := by simp [ByteArray.size]
  cases hv : Lib.atoiAll s
  ·rename_i v
   have ev : Q6k s = (v, true) := by unfold Q6k; rw [hv]
   rw [ev]
   refine (Any.strconv_Atoi_ok L ⟨s.toArray⟩ (by rw [hs]; omega) v hv E.w).mono fun e w' ⟨he, hw⟩ => ?_
   refine ⟨[_, _], he, ?_, fun E' => TReps.int (TReps.err1 (b := true) rfl rfl)⟩
   rcases hw with rfl | ⟨t, rfl⟩
   ·exact Below.refl _ _
   ·exact Lib.bytesWorld_below _ _ _
  ·have ev : Q6k s = (0, false) := by unfold Q6k; rw [hv]
   rw [ev]
   obtain ⟨te, pe, hc⟩ := hG.err (by simp [Q4y]) h15
   exact (Any.strconv_Atoi_syntax L ⟨s.toArray⟩ (by rw [hs]; omega) hv _ E.w hc (.inr ⟨te, pe, rfl⟩)).mono fun e w' ⟨N, he, _, _, hb⟩ =>
    ⟨[_, _], he, hb, fun E' => TReps.int (TReps.err1 (b := false) ⟨_, _, rfl⟩ rfl)⟩
  ·have ev : Q6k s = (Lib.atoiSat s, false) := by unfold Q6k; rw [hv]
   rw [ev]
   obtain ⟨te, pe, hc⟩ := hG.err (by simp [Q4y]) h16
   exact (Any.strconv_Atoi_range L ⟨s.toArray⟩ (by rw [hs]; omega) hv _ E.w hc (.inr ⟨te, pe, rfl⟩)).mono fun e w' ⟨N, he, _, _, hb⟩ =>
    ⟨[_, _], he, hb, fun E' => TReps.int (TReps.err1 (b := false) ⟨_, _, rfl⟩ rfl)⟩
abbrev Q9d := {β : Type} → List UInt8 → List UInt8 → (Bool → Option β) → Option β
@[reducible] def Qe1 (c : Q9d) : Spec := Q34 [(false, [.data .str]), (false, [.data .str])] [(false, [.data .bool])] fun x k => c x.1.1 x.2.1.1 fun r0 => k ((r0, ()), ())
def Q9e : Q9d := fun s sep k => cond (decide (s.length < 4294967281)) (k (Lib.contains s sep)) none
theorem Qh1 {P : Program} {ρ : Shelf.Ren} {f : FuncId} (L : Lays.n144 P ρ) (hf : ρ.f 144 = f) (hg : ρ.g 1 < P.globals.size)
  (hm : ∀ w0 : World, w0.ShapedOpen P → ∃ m, w0.cell? ⟨ρ.g 1, 0, none⟩ = some (.int .i64 m))
  (hfn : ∃ fn, P.funcs[f]? = some fn ∧ (fn.name == "runtime.NumGoroutine") = false ∧ fn.body.isNone = false) : SpecOk P f (Qe1 Q9e) := by
 subst hf
 refine Q7f hfn fun {β} x k r hr => ?_
 obtain ⟨⟨s, _⟩, ⟨sep, _⟩, _⟩ := x
 simp only [Q9e] at hr
 cases hd : decide (s.length < 4294967281) with
 | false => rw [hd] at hr; cases hr
 | true =>
  rw [hd, cond_true] at hr
  have hlen := of_decide_eq_true hd
  refine ⟨_, hr, fun E args hG hargs => ?_⟩
  obtain ⟨rst, rfl, h2⟩ := TReps.str_inv hargs
  obtain ⟨rst2, rfl, h3⟩ := TReps.str_inv h2
  have : rst2 = [] := h3
  subst this
  obtain ⟨v, hv, m, rfl⟩ := hG.cell hg (Q := fun v => ∃ m, v = .int .i64 m) fun w0 h0 => by obtain ⟨m, h⟩ := hm w0 h0; exact ⟨_, h, m, rfl⟩
  refine (Any.strings_Contains L ⟨s.toArray⟩ ⟨sep.toArray⟩ m E.w (by simpa [ByteArray.size] using hlen) hv).mono fun e w' ⟨he, hw⟩ => ?_
  subst hw
  exact ⟨[_], he, Below.refl _ _, fun E' => TReps.bool1 rfl⟩
abbrev Qce := {β : Type} → List UInt8 → List UInt8 → (List (List UInt8) → Option β) → Option β
@[reducible] def Qn3 (c : Qce) : Spec := Q34 [(false, [.data .str]), (false, [.data .str])] [(false, [.data (.slice .str)])] fun x k => c x.1.1 x.2.1.1 fun r0 => k ((r0, ()), ())
def Qfy (s sep : List UInt8) : List (List UInt8) := (Lib.splitB ⟨sep.toArray⟩ 0 (Lib.countB ⟨s.toArray⟩ ⟨sep.toArray⟩) ⟨s.toArray⟩).map fun b => b.data.toList
def Qfz : Qce := fun s sep k => cond (decide (s.length < 4294967281) && decide (1 ≤ sep.length)) (k (Qfy s sep)) none
theorem Qcf {w : World} {ok : Nat → Prop} : ∀ (bs : List ByteArray), DList (fun (x : List UInt8) u => DRep w ok .str x u) (bs.map fun b => b.data.toList) (bs.map Value.string)
 | [] => rfl
 | b :: bs => ⟨[.string b], _, rfl, by simp [DRep], Qcf bs⟩
@[reducible] def Q7g (ps : List (Bool × List CT)) (t : TypeId) (e : Ty) (c : {β : Type} → ST.dens ps → (List e.den → Option β) → Option β) : Spec :=
 ⟨ps, [], [(false, [.rowh 0])], [.row t e], fun x k => c x.1 (fun l => k (((), ()), (l, ())))⟩
theorem Qe2 {P : Program} {f : FuncId} {ps : List (Bool × List CT)} {t : TypeId} {e : Ty} {c : {β : Type} → ST.dens ps → (List e.den → Option β) → Option β} (he : e.flat = true)
  (hfn : ∃ fn, P.funcs[f]? = some fn ∧ (fn.name == "runtime.NumGoroutine") = false ∧ fn.body.isNone = false)
  (h : ∀ {β : Type} (x : ST.dens ps) (k : List e.den → Option β) (r : β), c x k = some r → ∃ l, k l = some r ∧ ∀ (E : Env) (args : List Value), GlobR P none E.w → TReps E (mkS [] ps x) args →
   Calls P f args.toArray E.w fun e2 w' => ∃ sv xs, e2 = .returned sv ∧ Below E.w.heap.size E.w w' ∧ DList (fun x u => DRep w' (fun _ => True) e x u) l xs ∧ w'.ownsRow E.w.heap.size t e.size sv l.length xs) : SpecOk P f (Q7g ps t e c) := by
 refine ⟨hfn, fun {β} x k r hr => ?_⟩
 obtain ⟨l, hy, hc⟩ := h x.1 (fun l => k (((), ()), (l, ()))) r hr
 refine ⟨(((), ()), (l, ())), hy, fun ok0 pl w args hrel hargs => ?_⟩
 refine (hc (Q0 ok0 w.heap.size pl (fnBl (mkB (Q1 0 (Q7g ps t e c).ins.length) (Q7g ps t e c).ins x.2)) w) args (hrel.glob.row fun g hg => by cases hg) hargs).mono fun e2 w' ⟨sv, xs, he2, hb, hd, hown⟩ => ?_
 have hb : Below w.heap.size w w' := hb
 have hown : w'.ownsRow w.heap.size t e.size sv l.length xs := hown
 let pl' : Nat → Option Pl := fun i => if i = 0 then some (.row sv []) else none
 let bl' : Nat → Option Blk := fnBl (mkB (Q1 0 1) [.row t e] (l, ()))
 have hbl0 : bl' 0 = some (.row t e 0 l) := rfl
 have hbls : ∀ i B, bl' i = some B → i = 0 ∧ B = .row t e 0 l := by
  intro i B hB
  have hB : ([Blk.row t e 0 l] : List Blk)[i]? = some B := hB
  cases i with
  | zero => simp at hB; exact ⟨rfl, hB.symm⟩
  | succ i => simp at hB
 have hone : sv.oneCell' = true := by
  rcases hown.2 with ⟨h, _⟩ | ⟨g, cap, cur, h, _⟩ <;> rw [h] <;> rfl
 have hOwn : ∀ g, g < w.heap.size → ¬ Own pl' bl' g := by
  rintro g hg ⟨i, B, q, hB, _, hq, hqg⟩
  obtain ⟨rfl, rfl⟩ := hbls i B hB
  have hq : some (Pl.row sv []) = some q := hq
  injection hq with hq
  subst hq
  have := Pl.has_row hqg
  rcases hown.2 with ⟨h, _⟩ | ⟨g', cap, cur, h, hge, _⟩
  ·rw [h] at this; cases this
  ·rw [h] at this
   simp only [Value.ownBlock, Option.some.injEq] at this
   omega
 have hrel' : RelB ok0 w.heap.size pl' bl' w' := by
  refine ⟨hb.size, fun i B hB => ?_, fun i j B C p q g hij hB hC => ?_, fun i hi => ?_, hrel.glob.out hb.size fun g hg _ => ⟨hb.block g hg, hOwn g hg⟩⟩
  ·obtain ⟨rfl, rfl⟩ := hbls i B hB
   exact ⟨.row sv [], rfl, rfl, xs, hd.mono fun x u hu => hu.flat he, hown⟩
  ·obtain ⟨rfl, _⟩ := hbls i B hB
   obtain ⟨rfl, _⟩ := hbls j C hC
   exact absurd rfl hij
  ·show (if i = 0 then some (Pl.row sv []) else none) = none
   cases i with
   | zero => rw [hbl0] at hi; cases hi
   | succ i => rfl
 refine ⟨[sv], pl', he2, hrel', ⟨hb.os, hb.tape, hb.output, hb.size, fun g hg _ => ⟨hb.block g hg, hOwn g hg⟩, fun b g hm _ => absurd hm (Nat.not_lt_zero _), fun b a q hm _ => absurd hm (Nat.not_lt_zero _)⟩, ?_⟩
 exact ⟨sv, [], rfl, ⟨[sv], ⟨sv, [], rfl, ⟨hone, sv, [], rfl, fun t1 e1 ver' l1 hbb => by
  have hbb : bl' 0 = some (.row t1 e1 ver' l1) := hbb
  rw [hbl0] at hbb
  injection hbb with hbb
  injection hbb with q1 q2 q3 q4
  exact ⟨Nat.zero_le _, fun _ => rfl⟩⟩, rfl⟩, rfl⟩, rfl⟩
@[reducible] def Qhq (t : TypeId) (c : Qce) : Spec := Q7g [(false, [.data .str]), (false, [.data .str])] t .str fun x k => c x.1.1 x.2.1.1 k
theorem Qjn {P : Program} {ρ : Shelf.Ren} {f : FuncId} {t : TypeId} (L : Lays.n146 P ρ) (hf : ρ.f 146 = f) (ht : ρ.t 9 = t) (hi9 : (P.info? (ρ.t 9)).map (fun i => (i.zero, i.size, i.bytes)) = some (some (.string ByteArray.empty), 1, 16)) (hg : ρ.g 1 < P.globals.size)
  (hm : ∀ w0 : World, w0.ShapedOpen P → ∃ m, w0.cell? ⟨ρ.g 1, 0, none⟩ = some (.int .i64 m))
  (hfn : ∃ fn, P.funcs[f]? = some fn ∧ (fn.name == "runtime.NumGoroutine") = false ∧ fn.body.isNone = false) : SpecOk P f (Qhq t Qfz) := by
 subst hf ht
 refine Qe2 rfl hfn fun {β} x k r hr => ?_
 obtain ⟨⟨s, _⟩, ⟨sep, _⟩, _⟩ := x
 simp only [Qfz] at hr
 cases hd : (decide (s.length < 4294967281) && decide (1 ≤ sep.length)) with
 | false => rw [hd] at hr; cases hr
 | true =>
  rw [hd, cond_true] at hr
  obtain ⟨d1, d2⟩ := andB hd
  have hlen := of_decide_eq_true d1
  have hsep := of_decide_eq_true d2
  refine ⟨_, hr, fun E args hG hargs => ?_⟩
  obtain ⟨rst, rfl, h2⟩ := TReps.str_inv hargs
  obtain ⟨rst2, rfl, h3⟩ := TReps.str_inv h2
  have : rst2 = [] := h3
  subst this
  obtain ⟨v, hv, m, rfl⟩ := hG.cell hg (Q := fun v => ∃ m, v = .int .i64 m) fun w0 h0 => by obtain ⟨m, h⟩ := hm w0 h0; exact ⟨_, h, m, rfl⟩
  have hs1 : (⟨sep.toArray⟩ : ByteArray).size = sep.length := by simp [ByteArray.size]
  have hs2 : (⟨s.toArray⟩ : ByteArray).size = s.length := by simp [ByteArray.size]
  have hcl := Lib.countB_le ⟨sep.toArray⟩ (by rw [hs1]; exact hsep) _ ⟨s.toArray⟩ (Nat.le_refl _)
  have hbl := Lib.splitB_all ⟨sep.toArray⟩ (by rw [hs1]; exact hsep) 0 _ ⟨s.toArray⟩ rfl
  have hll : (Qfy s sep).length = Lib.countB ⟨s.toArray⟩ ⟨sep.toArray⟩ + 1 := by unfold Qfy; rw [List.length_map, hbl]
  refine (Any.strings_Split L hi9 ⟨s.toArray⟩ ⟨sep.toArray⟩ m E.w (by rw [hs2]; exact hlen) hv (by rw [hs1]; exact hsep)).mono fun e w' ⟨he, hw⟩ => ?_
  subst hw
  refine ⟨_, (Lib.splitB ⟨sep.toArray⟩ 0 (Lib.countB ⟨s.toArray⟩ ⟨sep.toArray⟩) ⟨s.toArray⟩).map Value.string, he, (Below.refl _ _).alloc (Nat.le_refl _) _, Qcf _, ?_, .inr ⟨E.w.heap.size, _, _, by rw [hll], Nat.le_refl _, heap_alloc_new _ _, ?_, ?_, ?_, ?_⟩⟩
  ·rw [hll, List.length_map, hbl]; simp [Ty.size]
  ·rw [hll]; exact Nat.le_refl _
  ·unfold maxLen; omega
  ·simp [Ty.size, hbl]
  ·rw [hll]; simp [Ty.size]; exact List.take_of_length_le (by simp [hbl])
abbrev Qd7 := {β : Type} → List UInt8 → Int → (List UInt8 → Option β) → Option β
@[reducible] def Qhr (c : Qd7) : Spec := Q34 [(false, [.data .str]), (false, [.data (.int .i64)])] [(false, [.data .str])] fun x k => c x.1.1 x.2.1.1 fun r0 => k ((r0, ()), ())
def Qd8 : Qd7 := fun s n k => cond (decide (0 ≤ n) && (decide (n ≤ 9223372036854775807) && decide (s.length * n.toNat ≤ 140737488355328))) (k (Lib.repeatL s n.toNat)) none
theorem Qjo {P : Program} {ρ : Shelf.Ren} {f : FuncId} (L : Lays.n105 P ρ) (X : Builder.Extra P ρ) (hf : ρ.f 105 = f)
  (hfn : ∃ fn, P.funcs[f]? = some fn ∧ (fn.name == "runtime.NumGoroutine") = false ∧ fn.body.isNone = false) : SpecOk P f (Qhr Qd8) := by
 subst hf
 refine Q7f hfn fun {β} x k r hr => ?_
 obtain ⟨⟨s, _⟩, ⟨n, _⟩, _⟩ := x
 simp only [Qd8] at hr
 cases hd : (decide (0 ≤ n) && (decide (n ≤ 9223372036854775807) && decide (s.length * n.toNat ≤ 140737488355328))) with
 | false => rw [hd] at hr; cases hr
 | true =>
  rw [hd, cond_true] at hr
  obtain ⟨d1, d2⟩ := andB hd
  obtain ⟨d2, d3⟩ := andB d2
  have h0 : (0 : Int) ≤ n := of_decide_eq_true d1
  have h1 : (n : Int) ≤ 9223372036854775807 := of_decide_eq_true d2
  have h2 := of_decide_eq_true d3
  refine ⟨_, hr, fun E args hG hargs => ?_⟩
  obtain ⟨rst, rfl, g2⟩ := TReps.str_inv hargs
  obtain ⟨rst2, rfl, g3⟩ := TReps.int_inv g2
  have : rst2 = [] := g3
  subst this
  have key : ∀ n : Int, 0 ≤ n → n ≤ 9223372036854775807 → n = ((n.toNat : Nat) : Int) ∧ n.toNat ≤ 9223372036854775807 := fun n _ _ => ⟨by omega, by omega⟩
  obtain ⟨hn, hn2⟩ := key n h0 h1
  have hs2 : (⟨s.toArray⟩ : ByteArray).size = s.length := by simp [ByteArray.size]
  have := Any.strings_Repeat L X ⟨s.toArray⟩ n.toNat E.w hn2 (by rw [hs2]; exact h2)
  rw [← hn] at this
  refine this.mono fun e w' ⟨he, hw⟩ => ?_
  exact ⟨[_], he, hw, fun E' => TReps.str1 rfl⟩
abbrev Qd9 := {β : Type} → List UInt8 → (List (List UInt8) → Option β) → Option β
@[reducible] def Qg0 (t : TypeId) (c : Qd9) : Spec := Q7g [(false, [.data .str])] t .str fun x k => c x.1.1 k
def Qda : Qd9 := fun s k => cond (decide (s.length < 4294967281)) (k (Lib.fieldsD s)) none
theorem Qh2 {g : Nat} {w : World} (h : Q9v g w) : Lib.WhiteTab g w := by
 obtain ⟨T, oT, R, oR, a, b, c⟩ := h
 refine ⟨T, oT, R, oR, a 0 _ rfl, b 0 _ rfl, b 1 _ rfl, b 2 _ rfl, fun i hi => c i _ ?_⟩
 have hl : Lib.whiteT.length = 21 := rfl
 rw [List.getElem?_map, List.getElem?_eq_getElem (by omega), List.getD_eq_getElem?_getD, List.getElem?_eq_getElem (by omega)]
 rfl
theorem Qam {w : World} {ok : Nat → Prop} : ∀ (bs : List (List UInt8)), DList (fun (x : List UInt8) u => DRep w ok .str x u) bs (bs.map fun x => Value.string ⟨x.toArray⟩)
 | [] => rfl
 | b :: bs => ⟨[.string ⟨b.toArray⟩], _, rfl, by simp [DRep], Qam bs⟩
theorem Qjp {P : Program} {ρ : Shelf.Ren} {f : FuncId} {t : TypeId} (L : Lays.n157 P ρ) (hf : ρ.f 157 = f) (ht : ρ.t 9 = t) (hi9 : (P.info? (ρ.t 9)).map (fun i => (i.zero, i.size, i.bytes)) = some (some (.string ByteArray.empty), 1, 16))
  (hi154 : (P.info? (ρ.t 154)).map (fun i => (i.zero, i.size, i.bytes)) = some (some (.agg #[.int .i64 0, .int .i64 0]), 2, 16)) (hg : P.globalNamed "strings.asciiSpace" = some (ρ.g 0)) (hw : P.globalNamed "unicode.White_Space" = some (ρ.g 6))
  (hfn : ∃ fn, P.funcs[f]? = some fn ∧ (fn.name == "runtime.NumGoroutine") = false ∧ fn.body.isNone = false) : SpecOk P f (Qg0 t Qda) := by
 subst hf ht
 refine Qe2 rfl hfn fun {β} x k r hr => ?_
 obtain ⟨⟨s, _⟩, _⟩ := x
 simp only [Qda] at hr
 cases hd : decide (s.length < 4294967281) with
 | false => rw [hd] at hr; cases hr
 | true =>
  rw [hd, cond_true] at hr
  have hlen := of_decide_eq_true hd
  refine ⟨_, hr, fun E args hG hargs => ?_⟩
  obtain ⟨rst, rfl, h3⟩ := TReps.str_inv hargs
  have : rst = [] := h3
  subst this
  have hs2 : (⟨s.toArray⟩ : ByteArray).size = s.length := by simp [ByteArray.size]
  refine (Any.strings_Fields_any L hi9 hi154 hg ⟨s.toArray⟩ E.w (by rw [hs2]; exact hlen) (hG.tab (x := ("strings.asciiSpace", .u8, Lib.asciiSpaceTab)) (by simp [Q4x]) hg) (Qh2 (hG.white hw))).mono fun e w' ⟨A, he, _, hown, hb⟩ => ?_
  exact ⟨_, _, he, hb, Qam _, hown⟩
end Go.Lift
