/- The lifter, part Li: flat functions of Go's library. -/
import Derived.Shelf.Vars
import Derived.Shelf.Strings.Cut
import Derived.Shelf.Strconv.AtoiAll
import Derived.Shelf.Strconv.Itoa3
import Derived.Test.YtaecjejknbbndaaDoorPart4
namespace Go.Lift
open Go.RowKit Go.Shelf Go.Proofs

@[reducible] def flatS (ps rs : List (Bool × List CT)) (c : {β : Type} → ST.dens ps → (ST.dens rs → Option β) → Option β) : Spec :=
  ⟨ps, [], rs, [], fun x k => c x.1 (fun y => k (y, ()))⟩

/-- A function that takes and gives plain data and touches nothing of its caller's. -/
theorem flat_ok {P : Program} {f : FuncId} {ps rs : List (Bool × List CT)} {c : {β : Type} → ST.dens ps → (ST.dens rs → Option β) → Option β}
    (hfn : ∃ fn, P.funcs[f]? = some fn ∧ (fn.name == "runtime.NumGoroutine") = false ∧ fn.body.isNone = false)
    (h : ∀ {β : Type} (x : ST.dens ps) (k : ST.dens rs → Option β) (r : β), c x k = some r → ∃ y, k y = some r ∧ ∀ (E : Env) (args : List Value), GlobR P none E.w → TReps E (mkS [] ps x) args →
      Calls P f args.toArray E.w fun e w' => ∃ vals, e = .returned (retVal vals) ∧ Below E.w.heap.size E.w w' ∧ ∀ E' : Env, TReps E' (mkS [] rs y) vals) : SpecOk P f (flatS ps rs c) := by
  refine ⟨hfn, fun {β} x k r hr => ?_⟩
  obtain ⟨y, hy, hc⟩ := h x.1 (fun y => k (y, ())) r hr
  refine ⟨(y, ()), hy, fun ok0 pl w args hrel hargs => ?_⟩
  have hnone : ∀ i, fnBl (mkB (upFrom 0 (flatS ps rs c).ins.length) (flatS ps rs c).ins x.2) i = none := fun i => rfl
  refine (hc (envOf ok0 w.heap.size pl (fnBl (mkB (upFrom 0 (flatS ps rs c).ins.length) (flatS ps rs c).ins x.2)) w) args (hrel.glob.row fun g hg => by cases hg) hargs).mono fun e w' ⟨vals, he, hb, ht⟩ => ?_
  have hb : Below w.heap.size w w' := hb
  have hown : ∀ (p : Nat → Option Pl) g, ¬ Own p (fnBl (mkB (upFrom 0 (flatS ps rs c).outs.length) (flatS ps rs c).outs ())) g := fun p g ⟨i, B, q, hB, _⟩ => by cases hB
  exact ⟨vals, pl, he, ⟨hb.size, fun i B hB => (by cases hB), fun i j B C p q g _ hB => (by cases hB), hrel.fresh, hrel.glob.out hb.size fun g hg _ => ⟨hb.block g hg, hown _ g⟩⟩,
    ⟨hb.os, hb.tape, hb.output, hb.size, fun g hg _ => ⟨hb.block g hg, hown _ g⟩, fun b g _ h => h, fun b sv svs _ h => ⟨sv, svs, h⟩⟩, ht _⟩

/-! ### What a claim's form says of the library's variables -/
theorem globalNamed_lt {P : Program} {name : String} {g : Nat} (h : P.globalNamed name = some g) : g < P.globals.size := by
  unfold Program.globalNamed at h
  split at h
  · rename_i g' hl
    simp only [Option.some.injEq] at h
    subst h
    have : g' ∈ (List.range P.globals.size).filter fun g => (P.globals[g]?).any (·.name == name) := by rw [hl]; simp
    exact List.mem_range.1 (List.mem_filter.1 this).1
  · cases h

theorem GlobR.tab {P : Program} {o : Option Nat} {w : World} (h : GlobR P o w) {x : String × IntKind × List Int} (hx : x ∈ knownTabs) {g : Nat} (hg : P.globalNamed x.1 = some g) : Lib.TabIs P w x.1 x.2.1 x.2.2 := by
  obtain ⟨w0, h1, _, h3⟩ := h
  have ht := h1.tabs x hx (by rw [hg]; rfl)
  unfold Lib.TabIs World.var? at ht ⊢
  rw [hg] at ht ⊢
  simp only [Option.bind_some] at ht ⊢
  have hlt : g < w0.heap.size := by
    split at ht
    · rename_i cs _ _ hc; exact (Array.getElem?_eq_some_iff.1 hc).1
    · cases ht
  rw [(h3 g (globalNamed_lt hg) hlt).1]
  exact ht

theorem GlobR.cell {P : Program} {o : Option Nat} {w : World} (h : GlobR P o w) {g : Nat} (hg : g < P.globals.size) {Q : Value → Prop} (hq : ∀ w0 : World, w0.ShapedOpen P → ∃ v, w0.cell? ⟨g, 0, none⟩ = some v ∧ Q v) :
    ∃ v, w.cell? ⟨g, 0, none⟩ = some v ∧ Q v := by
  obtain ⟨w0, h1, _, h3⟩ := h
  obtain ⟨v, hv, hQ⟩ := hq w0 h1.open_
  exact ⟨v, (World.cell?_of_block (h3 g hg (World.block_lt_of_cell? w0 _ hv)).1).trans hv, hQ⟩

theorem GlobR.err {P : Program} {o : Option Nat} {w : World} (h : GlobR P o w) {n : String} (hn : n ∈ knownErrs) {g : Nat} (hg : P.globalNamed n = some g) : ∃ t u, w.cell? ⟨g, 0, none⟩ = some (.iface t u) := by
  obtain ⟨w0, h1, _, h3⟩ := h
  obtain ⟨t, u, ht⟩ := h1.errs n hn (by rw [hg]; rfl)
  have hc := World.var?_cell hg ht 0
  refine ⟨t, u, ?_⟩
  rw [World.cell?_of_block (w := w0) (h3 g (globalNamed_lt hg) (World.block_lt_of_cell? w0 ⟨g, 0, none⟩ (by rw [hc]; rfl))).1, hc]
  rfl

/-! ### Arguments and results -/
theorem TReps.str_inv {E : Env} {s : List UInt8} {ts : List (Bool × List C)} {args : List Value} (h : TReps E ((false, [.str s]) :: ts) args) : ∃ rst, args = .string ⟨s.toArray⟩ :: rst ∧ TReps E ts rst := by
  obtain ⟨v, vs, e, ⟨us, ⟨u, us', e1, h1, h2⟩, h3⟩, h4⟩ := h
  simp only [CReps] at h2
  simp only [CRep] at h1
  simp only [Bool.false_eq_true, if_false] at h3
  subst h2 h1 e1
  simp only [List.cons.injEq, and_true] at h3
  subst h3
  exact ⟨vs, e, h4⟩

theorem TReps.int_inv {E : Env} {k : IntKind} {n : Int} {ts : List (Bool × List C)} {args : List Value} (h : TReps E ((false, [.int k n]) :: ts) args) : ∃ rst, args = .int k n :: rst ∧ TReps E ts rst := by
  obtain ⟨v, vs, e, ⟨us, ⟨u, us', e1, h1, h2⟩, h3⟩, h4⟩ := h
  simp only [CReps] at h2
  simp only [CRep] at h1
  simp only [Bool.false_eq_true, if_false] at h3
  subst h2 h1 e1
  simp only [List.cons.injEq, and_true] at h3
  subst h3
  exact ⟨vs, e, h4⟩

theorem TReps.str1 {E : Env} {s : List UInt8} {ts : List (Bool × List C)} {vals : List Value} (h : TReps E ts vals) : TReps E ((false, [.str s]) :: ts) (.string ⟨s.toArray⟩ :: vals) :=
  ⟨_, _, rfl, ⟨[_], ⟨_, _, rfl, rfl, rfl⟩, by simp⟩, h⟩

theorem TReps.bool1 {E : Env} {b : Bool} {ts : List (Bool × List C)} {vals : List Value} (h : TReps E ts vals) : TReps E ((false, [.bool b]) :: ts) (.bool b :: vals) :=
  ⟨_, _, rfl, ⟨[_], ⟨_, _, rfl, rfl, rfl⟩, by simp⟩, h⟩

theorem TReps.err1 {E : Env} {b : Bool} {v : Value} {ts : List (Bool × List C)} {vals : List Value} (hv : errRep b v) (h : TReps E ts vals) : TReps E ((false, [.err b]) :: ts) (v :: vals) :=
  ⟨_, _, rfl, ⟨[v], ⟨_, _, rfl, hv, rfl⟩, by simp⟩, h⟩

/-! ### strings.Cut, strconv.Itoa, strconv.Atoi -/
abbrev cutT := {β : Type} → List UInt8 → List UInt8 → (List UInt8 → List UInt8 → Bool → Option β) → Option β
@[reducible] def cutS (c : cutT) : Spec := flatS [(false, [.data .str]), (false, [.data .str])] [(false, [.data .str]), (false, [.data .str]), (false, [.data .bool])] fun x k => c x.1.1 x.2.1.1 fun r0 r1 r2 => k ((r0, ()), (r1, ()), (r2, ()), ())
def cutF : cutT := fun s sep k => cond (decide (s.length < 4294967281)) (k (Lib.cut s sep).1 (Lib.cut s sep).2.1 (Lib.cut s sep).2.2) none

theorem cut_ok {P : Program} {ρ : Shelf.Ren} {f : FuncId} (L : Lays.n145 P ρ) (hf : ρ.f 145 = f) (hg : ρ.g 1 < P.globals.size)
    (hm : ∀ w0 : World, w0.ShapedOpen P → ∃ m, w0.cell? ⟨ρ.g 1, 0, none⟩ = some (.int .i64 m))
    (hfn : ∃ fn, P.funcs[f]? = some fn ∧ (fn.name == "runtime.NumGoroutine") = false ∧ fn.body.isNone = false) : SpecOk P f (cutS cutF) := by
  subst hf
  refine flat_ok hfn fun {β} x k r hr => ?_
  obtain ⟨⟨s, _⟩, ⟨sep, _⟩, _⟩ := x
  simp only [cutF] at hr
  cases hd : decide (s.length < 4294967281) with
  | false => rw [hd] at hr; cases hr
  | true =>
    rw [hd, cond_true] at hr
    have hlen := of_decide_eq_true hd
    refine ⟨_, hr, fun E args hG hargs => ?_⟩
    obtain ⟨rst, rfl, h2⟩ := TReps.str_inv hargs
    obtain ⟨rst2, rfl, h3⟩ := TReps.str_inv h2
    have : rst2 = [] := h3
    subst this
    obtain ⟨v, hv, m, rfl⟩ := hG.cell hg (Q := fun v => ∃ m, v = .int .i64 m) fun w0 h0 => by obtain ⟨m, h⟩ := hm w0 h0; exact ⟨_, h, m, rfl⟩
    refine (Any.strings_Cut L ⟨s.toArray⟩ ⟨sep.toArray⟩ m E.w (by simpa [ByteArray.size] using hlen) hv).mono fun e w' ⟨he, n, hw⟩ => ?_
    subst hw
    exact ⟨[_, _, _], he, ⟨rfl, rfl, rfl, Nat.le_refl _, fun _ _ => rfl⟩, fun E' => TReps.str1 (TReps.str1 (TReps.bool1 rfl))⟩

abbrev itoaT := {β : Type} → Int → (List UInt8 → Option β) → Option β
@[reducible] def itoaS (c : itoaT) : Spec := flatS [(false, [.data (.int .i64)])] [(false, [.data .str])] fun x k => c x.1.1 fun r0 => k ((r0, ()), ())
def itoaF : itoaT := fun n k => cond (decide (-9223372036854775808 ≤ n) && decide (n ≤ 9223372036854775807)) (k (Lib.itoa n)) none

theorem below_grow {w : World} {k : Nat} {os : Array Obj} : Below w.heap.size w (Go.Sort.grow (w.drewN k) os) := by
  refine ⟨rfl, rfl, rfl, ?_, fun i hi => ?_⟩
  · show w.heap.size ≤ (w.heap ++ os).size
    simp
  · show (w.heap ++ os)[i]? = w.heap[i]?
    rw [Array.getElem?_append_left hi]

theorem itoa_ok {P : Program} {ρ : Shelf.Ren} {f : FuncId} (L : LaysM.n171 P ρ) (hf : ρ.f 171 = f) {g : Nat} (hg : P.globalNamed "internal/strconv.uint64pow10" = some g)
    (hfn : ∃ fn, P.funcs[f]? = some fn ∧ (fn.name == "runtime.NumGoroutine") = false ∧ fn.body.isNone = false) : SpecOk P f (itoaS itoaF) := by
  subst hf
  refine flat_ok hfn fun {β} x k r hr => ?_
  obtain ⟨⟨n, _⟩, _⟩ := x
  simp only [itoaF] at hr
  cases hd : (decide (-9223372036854775808 ≤ n) && decide (n ≤ 9223372036854775807)) with
  | false => rw [hd] at hr; cases hr
  | true =>
    rw [hd, cond_true] at hr
    obtain ⟨h1, h2⟩ := andB hd
    refine ⟨_, hr, fun E args hG hargs => ?_⟩
    obtain ⟨rst, rfl, h3⟩ := TReps.int_inv hargs
    have : rst = [] := h3
    subst this
    refine (Any.strconv_Itoa L n (of_decide_eq_true h1) (of_decide_eq_true h2) E.w (hG.tab (x := ("internal/strconv.uint64pow10", .u64, Lib.pow10Tab)) (by simp [knownTabs]) hg)).mono fun e w' ⟨he, q, os, hw⟩ => ?_
    subst hw
    exact ⟨[_], he, below_grow, fun E' => TReps.str1 rfl⟩

abbrev atoiT := {β : Type} → List UInt8 → (Int → Bool → Option β) → Option β
@[reducible] def atoiS (c : atoiT) : Spec := flatS [(false, [.data .str])] [(false, [.data (.int .i64)]), (false, [.data .err])] fun x k => c x.1.1 fun r0 r1 => k ((r0, ()), (r1, ()), ())
/-- The number, and whether there is no error. -/
def atoiV (s : List UInt8) : Int × Bool :=
  match Lib.atoiAll s with
  | .ok v => (v, true)
  | .range => (Lib.atoiSat s, false)
  | _ => (0, false)
def atoiF : atoiT := fun s k => cond (decide (s.length ≤ 281474976710656)) (k (atoiV s).1 (atoiV s).2) none

theorem atoi_ok {P : Program} {ρ : Shelf.Ren} {f : FuncId} (L : LaysC.n172 P ρ) (hf : ρ.f 172 = f) (h15 : P.globalNamed "strconv.ErrSyntax" = some (ρ.g 15)) (h16 : P.globalNamed "strconv.ErrRange" = some (ρ.g 16))
    (hfn : ∃ fn, P.funcs[f]? = some fn ∧ (fn.name == "runtime.NumGoroutine") = false ∧ fn.body.isNone = false) : SpecOk P f (atoiS atoiF) := by
  subst hf
  refine flat_ok hfn fun {β} x k r hr => ?_
  obtain ⟨⟨s, _⟩, _⟩ := x
  simp only [atoiF] at hr
  cases hd : decide (s.length ≤ 281474976710656) with
  | false => rw [hd] at hr; cases hr
  | true =>
    rw [hd, cond_true] at hr
    have hlen := of_decide_eq_true hd
    refine ⟨_, hr, fun E args hG hargs => ?_⟩
    obtain ⟨rst, rfl, h3⟩ := TReps.str_inv hargs
    have : rst = [] := h3
    subst this
    have hs : (⟨s.toArray⟩ : ByteArray).size = s.length := by simp [ByteArray.size]
    cases hv : Lib.atoiAll s
    · rename_i v
      have ev : atoiV s = (v, true) := by unfold atoiV; rw [hv]
      rw [ev]
      refine (Any.strconv_Atoi_ok L ⟨s.toArray⟩ (by rw [hs]; omega) v hv E.w).mono fun e w' ⟨he, hw⟩ => ?_
      refine ⟨[_, _], he, ?_, fun E' => TReps.int (TReps.err1 (b := true) rfl rfl)⟩
      rcases hw with rfl | ⟨t, rfl⟩
      · exact Below.refl _ _
      · exact Lib.bytesWorld_below _ _ _
    · have ev : atoiV s = (0, false) := by unfold atoiV; rw [hv]
      rw [ev]
      obtain ⟨te, pe, hc⟩ := hG.err (by simp [knownErrs]) h15
      exact (Any.strconv_Atoi_syntax L ⟨s.toArray⟩ (by rw [hs]; omega) hv _ E.w hc (.inr ⟨te, pe, rfl⟩)).mono fun e w' ⟨N, he, _, _, hb⟩ =>
        ⟨[_, _], he, hb, fun E' => TReps.int (TReps.err1 (b := false) ⟨_, _, rfl⟩ rfl)⟩
    · have ev : atoiV s = (Lib.atoiSat s, false) := by unfold atoiV; rw [hv]
      rw [ev]
      obtain ⟨te, pe, hc⟩ := hG.err (by simp [knownErrs]) h16
      exact (Any.strconv_Atoi_range L ⟨s.toArray⟩ (by rw [hs]; omega) hv _ E.w hc (.inr ⟨te, pe, rfl⟩)).mono fun e w' ⟨N, he, _, _, hb⟩ =>
        ⟨[_, _], he, hb, fun E' => TReps.int (TReps.err1 (b := false) ⟨_, _, rfl⟩ rfl)⟩
end Go.Lift
