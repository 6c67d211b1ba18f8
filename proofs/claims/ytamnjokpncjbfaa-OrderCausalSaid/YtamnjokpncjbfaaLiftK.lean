/- The lifter, part K: what is small. -/
import Derived.Test.YtamnjokpncjbfaaLiftJn
namespace Go.Lift
open Go.RowKit

section
variable {P : Program} {o : Oper} {ρ : Operand → V} {bl : Nat → Option Blk} {β : Type} {r : β}

theorem sound_not {kk : K β} {t : TypeId} {x : Operand} (ho : o.op = .unOp .not t x) {b : Bool} (hx : ρ x = .c (.bool b)) (hk : kk (.c (.bool (!b))) [] [] = some r) : Sound P o ρ bl kk r := by
  refine Sound.pure hk fun bl2 _ ok0 base pl w a hr hxs => ⟨.bool (!b), ?_, rfl⟩
  have h1 := hxs x (by simp [ho, Op.operands])
  rw [hx] at h1
  have h1' : a.eval x = .bool b := h1
  simp [execOp, ho, h1', Op.unary]

theorem sound_neg {kk : K β} {t : TypeId} {x : Operand} (ho : o.op = .unOp .neg t x) {k : IntKind} {n : Int} (hx : ρ x = .c (.int k n)) (hk : kk (.c (.int k (k.wrap (0 - n)))) [] [] = some r) : Sound P o ρ bl kk r := by
  refine Sound.pure hk fun bl2 _ ok0 base pl w a hr hxs => ⟨.int k (k.wrap (0 - n)), ?_, rfl⟩
  have h1 := hxs x (by simp [ho, Op.operands])
  rw [hx] at h1
  have h1' : a.eval x = .int k n := h1
  simp [execOp, ho, h1', Op.unary, Op.intArith]

theorem sound_convInt {T : TypeId → Option TI} (hT : TOk P T) {kk : K β} {s t : TypeId} {x : Operand} (ho : o.op = .convert s t x) {si ti : TI} (hs : T s = some si) (ht : T t = some ti) {k0 k : IntKind} {n : Int} (hx : ρ x = .c (.int k0 n)) (hkd : ti.kind = some k)
    (hk : kk (.c (.int k (k.wrap n))) [] [] = some r) : Sound P o ρ bl kk r := by
  obtain ⟨i, d, z, f⟩ := hT.facts ht
  obtain ⟨i', d', z', f'⟩ := hT.facts hs
  have hd : d = .int k := by
    rw [f.kind] at hkd
    cases d <;> simp_all [kindD]
  subst hd
  refine Sound.pure hk fun bl2 _ ok0 base pl w a hr hxs => ⟨.int k (k.wrap n), ?_, rfl⟩
  have h1 := hxs x (by simp [ho, Op.operands])
  rw [hx] at h1
  have h1' : a.eval x = .int k0 n := h1
  simp [execOp, ho, h1', convert, run_underlying f.under, run_underlying f'.under, Conv.intToInt]

theorem sound_convStr {T : TypeId → Option TI} (hT : TOk P T) {kk : K β} {s t : TypeId} {x : Operand} (ho : o.op = .convert s t x) {si ti : TI} (hs : T s = some si) (ht : T t = some ti) {l : List UInt8} (hx : ρ x = .c (.str l)) (hkd : ti.isStr = true)
    (hk : kk (.c (.str l)) [] [] = some r) : Sound P o ρ bl kk r := by
  obtain ⟨i, d, z, f⟩ := hT.facts ht
  obtain ⟨i', d', z', f'⟩ := hT.facts hs
  have hd := str_type f hkd
  subst hd
  refine Sound.pure hk fun bl2 _ ok0 base pl w a hr hxs => ⟨.string ⟨l.toArray⟩, ?_, rfl⟩
  have h1 := hxs x (by simp [ho, Op.operands])
  rw [hx] at h1
  have h1' : a.eval x = .string ⟨l.toArray⟩ := h1
  simp [execOp, ho, h1', convert, run_underlying f.under, run_underlying f'.under]

theorem ptrsOf_rep {E : Env} : ∀ {vs : List V} {us : List Value} {bs : List Nat}, ptrsOf vs = some bs → vs.length = us.length → (∀ (j : Nat) (v : V) (u : Value), vs[j]? = some v → us[j]? = some u → VRep E v u) →
    ∃ gs : List Nat, bs.map E.pl = gs.map (fun g => some (.cells g)) ∧ us = gs.map fun g => .pointer (some ⟨g, 0, none⟩)
  | [], us, bs, h, hl, hv => by
    simp only [ptrsOf, Option.some.injEq] at h
    subst h
    cases us with
    | nil => exact ⟨[], rfl, rfl⟩
    | cons u us => simp at hl
  | v :: vs, us, bs, h, hl, hv => by
    cases us with
    | nil => simp at hl
    | cons u us =>
      unfold ptrsOf at h
      split at h
      · rename_i heq; cases heq
      · rename_i b r' heq
        injection heq with h1 h2
        subst h1 h2
        split at h
        · rename_i l hl'
          simp only [Option.some.injEq] at h
          subst h
          obtain ⟨gs, h3, h4⟩ := ptrsOf_rep hl' (by simpa using hl) (fun j v u hj hu => hv (j + 1) v u (by simpa using hj) (by simpa using hu))
          obtain ⟨g, hg, hu⟩ := hv 0 _ _ rfl rfl
          exact ⟨g :: gs, by simp [h3, hg], by simp [h4, hu]⟩
        · cases h
      · cases h

theorem sound_makeFunc {kk : K β} {f : FuncId} {first caps : Array Operand} (ho : o.op = .makeFunc (.func f) first caps) (hf : first.toList = []) {bs : List Nat} (hb : ptrsOf (caps.toList.map ρ) = some bs) (hk : kk (.c (.fn f bs)) [] [] = some r) : Sound P o ρ bl kk r := by
  have hf' : first = #[] := by simpa using hf
  subst hf'
  refine Sound.pure hk fun bl2 _ ok0 base pl w a hr hxs => ?_
  obtain ⟨gs, h1, h2⟩ := ptrsOf_rep (E := envOf ok0 base pl bl2 w) (us := caps.toList.map a.eval) hb (by simp) (fun j v u hj hu => by
    rw [List.getElem?_map] at hj hu
    cases hc : caps.toList[j]? with
    | none => rw [hc] at hj; cases hj
    | some x =>
      rw [hc] at hj hu
      simp only [Option.map_some, Option.some.injEq] at hj hu
      subst hj hu
      exact hxs x (by simp only [ho, Op.operands, Array.mem_append]; exact .inr (by have := List.mem_of_getElem? hc; simpa using this)))
  refine ⟨.func (.func f) #[] (gs.map fun g => .pointer (some ⟨g, 0, none⟩)).toArray, ?_, gs, h1, rfl⟩
  have h3 : caps.map a.eval = (gs.map fun g => Value.pointer (some ⟨g, 0, none⟩)).toArray := by
    apply Array.ext'
    simpa using h2
  simp [execOp, ho, Instr.makeFunc, h3]

theorem sound_nilCheck {kk : K β} {x : Operand} (ho : o.op = .nilCheck x) (hx : (∃ b of, ρ x = .c (.ptr b of)) ∨ (∃ b ver i of, ρ x = .eptr b ver i of) ∨ (∃ e y of, ρ x = .lptr e y of) ∨ (∃ f caps, ρ x = .c (.fn f caps)) ∨ (∃ b ver i, ρ x = .mcell b ver i) ∨ (∃ b ver i j of, ρ x = .mptr b ver i j of))
    (hk : kk (ρ x) [] [] = some r) : Sound P o ρ bl kk r := by
  refine Sound.pure hk fun bl2 _ ok0 base pl w a hr hxs => ⟨a.eval x, ?_, hxs x (by simp [ho, Op.operands])⟩
  have h1 := hxs x (by simp [ho, Op.operands])
  rcases hx with ⟨b, of, hx⟩ | ⟨b, ver, i, of, hx⟩ | ⟨e, y, of, hx⟩ | ⟨f, caps, hx⟩ | ⟨b, ver, i, hx⟩ | ⟨b, ver, i, j, of, hx⟩ <;> rw [hx] at h1
  · obtain ⟨g, _, hv⟩ := h1
    simp [execOp, ho, hv]
  · obtain ⟨sv, svs, ad, _, hv, _⟩ := h1
    simp [execOp, ho, hv]
  · obtain ⟨xs, ad, _, hv, _⟩ := h1
    simp [execOp, ho, hv]
  · obtain ⟨gs, _, hv⟩ := h1
    simp [execOp, ho, hv]
  · obtain ⟨sv, svs, ad, _, hv, _⟩ := h1
    simp [execOp, ho, hv]
  · obtain ⟨sv, svs, ad, _, hv, _⟩ := h1
    simp [execOp, ho, hv]

theorem sound_field {T : TypeId → Option TI} (hT : TOk P T) {kk : K β} {t : TypeId} {x : Operand} {fi : Nat} (ho : o.op = .field t x fi) {ti : TI} (ht : T t = some ti) {cs : List C} (hx : ρ x = .agg cs) {off n : Nat} {g : Bool} (hf : ti.flds[fi]? = some (off, n, g))
    (h1 : (g || Nat.beq n 1) = true) {rc : List C} (hs : sub cs off n = some rc) (hk : kk (V.mk g rc) [] [] = some r) : Sound P o ρ bl kk r := by
  obtain ⟨i, d, z, f⟩ := hT.facts ht
  obtain ⟨fs, fd, j, e, rfl, hfd, rfl, hj, rfl, he, hg⟩ := fld_facts f hf
  refine Sound.pure hk fun bl2 _ ok0 base pl w a hr hxs => ?_
  have hv := hxs x (by simp [ho, Op.operands])
  rw [hx] at hv
  obtain ⟨vs, hvs, hav⟩ := hv
  simp only [if_true] at hav
  obtain ⟨s1, s2, s3⟩ := sub_rep hvs hs
  have hagg : (isAgg fd.type).run P w = .ok g w := by
    rw [← hg]
    unfold isAgg aggOf
    rw [Sem.run_bind, run_underlying he w, he]
    cases e <;> simp
  have hsz : (sizeOf fd.type).run P w = .ok j.size w := by simp [sizeOf, typeInfo, hj]
  cases g with
  | true =>
    refine ⟨.agg ((vs.drop fd.offset).take j.size).toArray, ?_, _, s1, by simp⟩
    have hex : vs.toArray.extract fd.offset (fd.offset + j.size) = ((vs.drop fd.offset).take j.size).toArray := by
      apply Array.ext'
      simp
    simp [execOp, ho, hav, Instr.field, run_underlying f.under, hfd, asAgg, part, hagg, hsz]
  | false =>
    have hn : j.size = 1 := by simpa using Nat.eq_of_beq_eq_true (by simpa using h1)
    have hlt : fd.offset < vs.length := by omega
    have htake : (vs.drop fd.offset).take j.size = [vs[fd.offset]] := by
      rw [hn, List.drop_eq_getElem_cons hlt]
      rfl
    rw [htake] at s1
    refine ⟨vs[fd.offset], ?_, VRep.mk ⟨_, s1, by simp⟩⟩
    simp [execOp, ho, hav, Instr.field, run_underlying f.under, hfd, asAgg, part, hagg, hlt]

theorem sound_index {T : TypeId → Option TI} (hT : TOk P T) {kk : K β} {t : TypeId} {x y : Operand} (ho : o.op = .index t x y) {ti : TI} (ht : T t = some ti) {s : List UInt8} (hx : ρ x = .c (.str s)) {k : IntKind} {i : Int} (hy : ival (ρ y) = some (k, i)) (hstr : ti.isStr = true)
    (h0 : 0 ≤ i) (h1 : i < (s.length : Int)) (hk : kk (.c (.int .u8 ((s.getD i.toNat 0).toNat : Int))) [] [] = some r) : Sound P o ρ bl kk r := by
  obtain ⟨inf, d, z, f⟩ := hT.facts ht
  have := str_type f hstr
  subst this
  refine Sound.pure hk fun bl2 _ ok0 base pl w a hr hxs => ⟨.int .u8 ((s.getD i.toNat 0).toNat : Int), ?_, rfl⟩
  have hx1 := hxs x (by simp [ho, Op.operands])
  have hy1 := hxs y (by simp [ho, Op.operands])
  rw [hx] at hx1
  rw [ival_some hy] at hy1
  have hx2 : a.eval x = .string ⟨s.toArray⟩ := hx1
  have hy2 : a.eval y = .int k i := hy1
  have hlt : i.toNat < s.length := by omega
  have hget : (⟨s.toArray⟩ : ByteArray)[i.toNat]? = some s[i.toNat] := by
    have hsz : i.toNat < (⟨s.toArray⟩ : ByteArray).size := hlt
    rw [getElem?_pos (⟨s.toArray⟩ : ByteArray) i.toNat hsz]
    rfl
  have hd : s.getD i.toNat 0 = s[i.toNat] := by simp [List.getD, hlt]
  rw [hd]
  simp [execOp, ho, hx2, hy2, Instr.index, asIntOf, run_underlying f.under, h0, hget]

theorem TReps.get {E : Env} : ∀ {ts : List (Bool × List C)} {vs : List Value} {i : Nat} {t : Bool × List C}, TReps E ts vs → ts[i]? = some t → ∃ v, vs[i]? = some v ∧ SRep E t.1 t.2 v
  | [], _, i, t, _, h => by simp at h
  | t0 :: ts, _, 0, t, ⟨v, vs', e, h1, h2⟩, h => by
    simp only [List.getElem?_cons_zero, Option.some.injEq] at h
    subst h e
    exact ⟨v, rfl, h1⟩
  | t0 :: ts, _, i + 1, t, ⟨v, vs', e, h1, h2⟩, h => by
    subst e
    obtain ⟨u, h3, h4⟩ := TReps.get (i := i) h2 (by simpa using h)
    exact ⟨u, by simpa using h3, h4⟩

theorem sound_extract {kk : K β} {x : Operand} {i : Nat} (ho : o.op = .extract x i) {ts : List (Bool × List C)} (hx : ρ x = .tup ts) {t : Bool × List C} (ht : ts[i]? = some t) (hk : kk (V.mk t.1 t.2) [] [] = some r) : Sound P o ρ bl kk r := by
  refine Sound.pure hk fun bl2 _ ok0 base pl w a hr hxs => ?_
  have h1 := hxs x (by simp [ho, Op.operands])
  rw [hx] at h1
  obtain ⟨vs, hv, hts⟩ := h1
  obtain ⟨v, hv2, hs⟩ := TReps.get hts ht
  refine ⟨v, ?_, VRep.mk hs⟩
  simp [execOp, ho, hv, Instr.extract, hv2]

theorem minmaxFrom_rep {E : Env} {isMax : Bool} {k : IntKind} : ∀ {vs : List V} {us : List Value} {a : Int} {v : V}, minmaxFrom isMax k a vs = some v → vs.length = us.length → (∀ (j : Nat) (x : V) (u : Value), vs[j]? = some x → us[j]? = some u → VRep E x u) → ∀ w,
    ∃ n, v = .c (.int k n) ∧ (us.foldlM (bif isMax then Builtin.max2 else Builtin.min2) (.int k a)).run P w = .ok (.int k n) w
  | [], us, a, v, h, hl, hv, w => by
    simp only [minmaxFrom, Option.some.injEq] at h
    cases us with
    | nil => exact ⟨a, h.symm, rfl⟩
    | cons u us => simp at hl
  | x :: vs, us, a, v, h, hl, hv, w => by
    cases us with
    | nil => simp at hl
    | cons u us =>
      unfold minmaxFrom at h
      split at h
      · rename_i heq; cases heq
      · rename_i a' k' b r' heq
        injection heq with h1 h2
        subst h1 h2
        split at h
        · rename_i hkk
          subst hkk
          have hu : u = .int k b := hv 0 _ _ rfl rfl
          subst hu
          obtain ⟨n, h3, h4⟩ := minmaxFrom_rep h (by simpa using hl) (fun j x u hj hu => hv (j + 1) x u (by simpa using hj) (by simpa using hu)) w
          refine ⟨n, h3, ?_⟩
          rw [List.foldlM_cons]
          cases isMax with
          | true =>
            simp only [cond_true, Sem.run_bind, Builtin.max2, Sem.run_pure, Result.andThen_ok] at h4 ⊢
            exact h4
          | false =>
            simp only [cond_false, Sem.run_bind, Builtin.min2, Sem.run_pure, Result.andThen_ok] at h4 ⊢
            exact h4
        · cases h
      · cases h

theorem sound_minmax {isMax : Bool} {kk : K β} {c : Call} (ho : o.op = .call c) (hc : c.callee = .builtin (bif isMax then .max else .min)) {v : V} (hm : minmax isMax (c.args.toList.map ρ) = some v) (hk : kk v [] [] = some r) : Sound P o ρ bl kk r := by
  refine Sound.pure hk fun bl2 _ ok0 base pl w a hr hxs => ?_
  have hvs : ∀ (j : Nat) (x : V) (u : Value), (c.args.toList.map ρ)[j]? = some x → (c.args.toList.map a.eval)[j]? = some u → VRep (envOf ok0 base pl bl2 w) x u := by
    intro j x u hj hu
    rw [List.getElem?_map] at hj hu
    cases hcj : c.args.toList[j]? with
    | none => rw [hcj] at hj; cases hj
    | some y =>
      rw [hcj] at hj hu
      simp only [Option.map_some, Option.some.injEq] at hj hu
      subst hj hu
      exact hxs y (by simp only [ho, Op.operands, Call.operands, Array.mem_append]; exact .inr (by have := List.mem_of_getElem? hcj; simpa using this))
  have hl : (c.args.toList.map ρ).length = (c.args.toList.map a.eval).length := by simp
  generalize c.args.toList.map ρ = vs at hm hvs hl
  generalize hus : c.args.toList.map a.eval = us at hvs hl
  unfold minmax at hm
  split at hm
  · rename_i k a0 r'
    cases us with
    | nil => simp at hl
    | cons u us =>
      have hu : u = .int k a0 := hvs 0 _ _ rfl rfl
      subst hu
      obtain ⟨n, h3, h4⟩ := minmaxFrom_rep (P := P) hm (by simpa using hl) (fun j x u hj hu => hvs (j + 1) x u (by simpa using hj) (by simpa using hu)) w
      subst h3
      refine ⟨.int k n, ?_, rfl⟩
      cases isMax with
      | true =>
        simp only [cond_true] at h4 hc
        simp [execOp, ho, resolve, hc, invoke, builtin, Builtin.max_, hus, h4]
      | false =>
        simp only [cond_false] at h4 hc
        simp [execOp, ho, resolve, hc, invoke, builtin, Builtin.min_, hus, h4]
  · cases hm
end
end Go.Lift
