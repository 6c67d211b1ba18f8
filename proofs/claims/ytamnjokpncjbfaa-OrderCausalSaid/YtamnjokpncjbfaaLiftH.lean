/- The lifter, part H: the rest of the operations that make no call. -/
import Derived.Test.YtamnjokpncjbfaaLiftG
import Derived.ChangeKeysEq
namespace Go.Lift
open Go.RowKit

theorem toList_bytes (l : List UInt8) : (⟨l.toArray⟩ : ByteArray).toList = l := by rw [ByteArray.toList_eq]

section
variable {P : Program} {o : Oper} {ρ : Operand → V} {bl : Nat → Option Blk} {β : Type} {r : β}

theorem mem_ops {x : Operand} {l : Array Operand} (h : o.op.operands = l) (hx : x ∈ l) : x ∈ o.op.operands := h ▸ hx

/-! ### Arithmetic and comparisons -/
theorem eqGuard_int {w : World} {op : BinOp} {t : TypeId} {x y : Operand} {k k' : IntKind} {a b : Int} : (eqGuard op t x y (.int k a) (.int k' b)).run P w = .ok () w := by
  unfold eqGuard
  cases op <;> simp
theorem eqGuard_str {w : World} {op : BinOp} {t : TypeId} {x y : Operand} {a b : ByteArray} : (eqGuard op t x y (.string a) (.string b)).run P w = .ok () w := by
  unfold eqGuard
  cases op <;> simp
theorem eqGuard_bool {w : World} {op : BinOp} {t : TypeId} {x y : Operand} {a b : Bool} : (eqGuard op t x y (.bool a) (.bool b)).run P w = .ok () w := by
  unfold eqGuard
  cases op <;> simp

theorem basic_notAgg {t : TypeId} {k : BK} (h : basic P t = some k) (w : World) : (isAgg t).run P w = .ok false w := by
  unfold isAgg
  unfold basic at h
  split at h <;> first | (rename_i hu; simp [run_underlying hu]; done) | cases h

/-- One cell against another. -/
theorem run_eqCell {w : World} (d0 : Nat) {t : TypeId} {k : BK} (hb : basic P t = some k) {ks : List BK} {a b : C} {as bs : List C} {x y : Value} {E : Env} (ha : CRep E a x) (hy : CRep E b y) {q : Bool} (hq : eqCells (k :: ks) (a :: as) (b :: bs) = some q) :
    ∃ q1 q2, (Op.equalIn (d0 + 1) t x y).run P w = .ok q1 w ∧ eqCells ks as bs = some q2 ∧ q = (q1 && q2) := by
  unfold basic at hb
  cases k <;> cases a <;> try (simp [eqCells] at hq; done)
  · cases b <;> simp only [eqCells] at hq <;> try (cases hq; done)
    rename_i a b
    split at hq
    · rename_i q2 h2
      simp only [CRep] at ha hy
      subst ha hy
      simp only [Option.some.injEq] at hq
      split at hb <;> try (cases hb; done)
      rename_i hu
      exact ⟨_, q2, run_equalIn_bool' w d0 t _ _ hu, h2, hq.symm⟩
    · cases hq
  · cases b <;> simp only [eqCells] at hq <;> try (cases hq; done)
    rename_i ka a kb b
    split at hq
    · rename_i hk
      subst hk
      split at hq
      · rename_i q2 h2
        simp only [CRep] at ha hy
        subst ha hy
        simp only [Option.some.injEq] at hq
        split at hb <;> try (cases hb; done)
        rename_i k' hu
        exact ⟨_, q2, run_equalIn_int w d0 t _ _ _ _ hu, h2, hq.symm⟩
      · cases hq
    · cases hq
  · cases b <;> simp only [eqCells] at hq <;> try (cases hq; done)
    rename_i a b
    split at hq
    · rename_i q2 h2
      simp only [CRep] at ha hy
      subst ha hy
      simp only [Option.some.injEq] at hq
      split at hb <;> try (cases hb; done)
      rename_i hu
      refine ⟨_, q2, run_equalIn_string w d0 t _ _ hu, h2, ?_⟩
      rw [toList_bytes, toList_bytes, ← hq]
      by_cases h : a = b <;> simp [h]
    · cases hq

theorem run_eqFields_basic {w : World} (d0 : Nat) : ∀ (fs : List Field) (i : Nat) (ks : List BK) (as bs : List C) (xs ys : List Value) (E : Env) (xa ya : Array Value), eqsStruct P i fs = some ks → CReps E as xs → CReps E bs ys →
    xa.toList.drop i = xs → ya.toList.drop i = ys → ∀ {q : Bool}, eqCells ks as bs = some q → (Op.eqFields (d0 + 1) xa ya fs).run P w = .ok q w := by
  intro fs
  induction fs with
  | nil =>
    intro i ks as bs xs ys E xa ya hf ha hb _ _ q hq
    simp only [eqsStruct, Option.some.injEq] at hf
    subst hf
    cases as with
    | cons a as => simp [eqCells] at hq
    | nil =>
      cases bs with
      | nil => simp only [eqCells, Option.some.injEq] at hq; subst hq; simp [Op.eqFields]
      | cons b bs => simp [eqCells] at hq
  | cons f fs ih =>
    intro i ks as bs xs ys E xa ya hf ha hb hxa hya q hq
    simp only [eqsStruct] at hf
    cases hn : (f.name != "_" && Nat.beq f.offset i) with
    | false => rw [hn] at hf; cases hf
    | true =>
      simp only [hn, cond_true] at hf
      obtain ⟨hname, hoff⟩ := andB hn
      have hoff := Nat.eq_of_beq_eq_true hoff
      split at hf
      · rename_i k ks' hbas hrest
        simp only [Option.some.injEq] at hf
        subst hf
        cases as with
        | nil => simp [eqCells] at hq
        | cons a as =>
          cases bs with
          | nil => cases k <;> cases a <;> simp [eqCells] at hq
          | cons b bs =>
            obtain ⟨x, xs', ex, ha1, ha2⟩ := ha
            obtain ⟨y, ys', ey, hb1, hb2⟩ := hb
            subst ex ey
            have hx0 : xa[i]? = some x := by
              have := congrArg (·[0]?) hxa
              simpa using this
            have hy0 : ya[i]? = some y := by
              have := congrArg (·[0]?) hya
              simpa using this
            have hx1 : xa.toList.drop (i + 1) = xs' := by
              have := congrArg List.tail hxa
              simpa using this
            have hy1 : ya.toList.drop (i + 1) = ys' := by
              have := congrArg List.tail hya
              simpa using this
            have hname' : f.name ≠ "_" := by simpa using hname
            have hagg := basic_notAgg (P := P) hbas w
            have hpx : (part f.type xa f.offset).run P w = .ok x w := by
              simp [part, hagg, hoff, hx0]
            have hpy : (part f.type ya f.offset).run P w = .ok y w := by
              simp [part, hagg, hoff, hy0]
            obtain ⟨q1, q2, h1, h2, h3⟩ := run_eqCell (w := w) d0 hbas ha1 hb1 hq
            have hih := ih (i + 1) ks' as bs xs' ys' E xa ya hrest ha2 hb2 hx1 hy1 h2
            simp only [Op.eqFields, ne_eq, hname', not_false_eq_true, if_true, Sem.run_bind, hpx, hpy, h1, Result.andThen_ok]
            cases q1 with
            | false => simp [h3]
            | true => simp [h3, hih]
      · cases hf

theorem run_eqItems_basic {w : World} (d0 : Nat) {e : TypeId} {k : BK} (hbas : basic P e = some k) : ∀ (n i : Nat) (as bs : List C) (xs ys : List Value) (E : Env) (xa ya : Array Value), CReps E as xs → CReps E bs ys →
    xa.toList.drop i = xs → ya.toList.drop i = ys → ∀ {q : Bool}, eqCells (List.replicate n k) as bs = some q → (Op.eqItems (d0 + 1) e 1 xa ya (List.range' i n)).run P w = .ok q w := by
  intro n
  induction n with
  | zero =>
    intro i as bs xs ys E xa ya ha hb _ _ q hq
    cases as with
    | cons a as => simp [eqCells] at hq
    | nil =>
      cases bs with
      | nil => simp only [List.replicate, eqCells, Option.some.injEq] at hq; subst hq; simp [Op.eqItems]
      | cons b bs => simp [eqCells] at hq
  | succ n ih =>
    intro i as bs xs ys E xa ya ha hb hxa hya q hq
    rw [List.replicate_succ] at hq
    cases as with
    | nil => simp [eqCells] at hq
    | cons a as =>
      cases bs with
      | nil => cases k <;> cases a <;> simp [eqCells] at hq
      | cons b bs =>
        obtain ⟨x, xs', ex, ha1, ha2⟩ := ha
        obtain ⟨y, ys', ey, hb1, hb2⟩ := hb
        subst ex ey
        have hx0 : xa[i]? = some x := by
          have := congrArg (·[0]?) hxa
          simpa using this
        have hy0 : ya[i]? = some y := by
          have := congrArg (·[0]?) hya
          simpa using this
        have hx1 : xa.toList.drop (i + 1) = xs' := by
          have := congrArg List.tail hxa
          simpa using this
        have hy1 : ya.toList.drop (i + 1) = ys' := by
          have := congrArg List.tail hya
          simpa using this
        have hagg := basic_notAgg (P := P) hbas w
        have hpx : (part e xa (i * 1)).run P w = .ok x w := by
          simp [part, hagg, hx0]
        have hpy : (part e ya (i * 1)).run P w = .ok y w := by
          simp [part, hagg, hy0]
        obtain ⟨q1, q2, h1, h2, h3⟩ := run_eqCell (w := w) d0 hbas ha1 hb1 hq
        have hih := ih (i + 1) as bs xs' ys' E xa ya ha2 hb2 hx1 hy1 h2
        simp only [List.range'_succ, Op.eqItems, Sem.run_bind, hpx, hpy, h1, Result.andThen_ok]
        cases q1 with
        | false => simp [h3]
        | true => simp [h3, hih]

theorem run_eqAgg {t : TypeId} {ks : List BK} (he : eqsOf P t = some ks) {as bs : List C} {xs ys : List Value} {E : Env} (ha : CReps E as xs) (hb : CReps E bs ys) {q : Bool} (hq : eqCells ks as bs = some q) (w : World) :
    (Op.equalIn 10000 t (.agg xs.toArray) (.agg ys.toArray)).run P w = .ok q w ∧ P.eqGuardType P.depth t = false := by
  unfold eqsOf at he
  split at he
  · rename_i fs hu
    cases hc : (P.stoodInHeld t || P.eqGuardType P.depth t) with
    | true => rw [hc] at he; cases he
    | false =>
      simp only [hc, cond_false] at he
      have hc2 : P.stoodInHeld t = false ∧ P.eqGuardType P.depth t = false := by simpa using hc
      have hfs : P.fieldsOf t = fs := by simp [Program.fieldsOf, hu]
      have hu' : P.underlying t = some (.struct (P.fieldsOf t)) := by rw [hfs]; exact hu
      refine ⟨?_, hc2.2⟩
      rw [run_equalIn_struct w 9999 t _ _ hu' hc2.1, hfs]
      exact run_eqFields_basic 9998 fs.toList 0 ks as bs xs ys E _ _ he ha hb (by simp) (by simp) hq
  · rename_i n e hu
    split at he
    · rename_i k hk
      cases hc : (Nat.beq (P.cellsOf e) 1 && !P.eqGuardType P.depth t) with
      | false => rw [hc] at he; cases he
      | true =>
        simp only [hc, cond_true, Option.some.injEq] at he
        subst he
        obtain ⟨hc1, hc2⟩ := andB hc
        have hc1 := Nat.eq_of_beq_eq_true hc1
        have hi : ∃ i, P.info? e = some i := by
          cases hi : P.info? e with
          | some i => exact ⟨i, rfl⟩
          | none => simp [Program.cellsOf, hi] at hc1
        obtain ⟨i, hi⟩ := hi
        refine ⟨?_, by simpa using hc2⟩
        rw [run_equalIn_array w 9999 _ _ hu hi, hc1, List.range_eq_range']
        exact run_eqItems_basic 9998 hk n 0 as bs xs ys E _ _ ha hb (by simp) (by simp) hq
    · cases he
  · cases he

theorem eqGuard_slice {w : World} {op : BinOp} {t : TypeId} {x y : Operand} {a a' : Option Addr} {n n' c c' : Nat} : (eqGuard op t x y (.slice a n c) (.slice a' n' c')).run P w = .ok () w := by
  unfold eqGuard
  cases op <;> simp

theorem run_equalIn_nil (w : World) (d : Nat) (t e : TypeId) (a : Option Addr) (l c : Nat) (h : P.underlying t = some (.slice e)) : (Op.equalIn (d + 1) t (.slice a l c) (.slice none 0 0)).run P w = .ok a.isNone w := by
  cases a <;> simp [Op.equalIn, run_underlying h]

theorem sound_nilTest {T : TypeId → Option TI} (hT : TOk P T) {kk : K β} {op : BinOp} {t t' : TypeId} {x y : Operand} (ho : o.op = .binOp op t x y t') {cx : C} {b : Bool} (hx : ρ x = .c cx) (hy : ρ y = .c .nils)
    (hc : ∀ E v, CRep E cx v → ∃ a n c, v = .slice a n c ∧ a.isNone = b) (hk : nilTest T op t b kk = some r) : Sound P o ρ bl kk r := by
  have hx0 : x ∈ o.op.operands := by simp [ho, Op.operands]
  have hy0 : y ∈ o.op.operands := by simp [ho, Op.operands]
  unfold nilTest at hk
  split at hk
  · rename_i ti ht
    obtain ⟨i, d, z, f⟩ := hT.facts ht
    have main : ∀ (q : Bool) (e : TypeId), ti.elem = some e → ti.len = none → kk (.c (.bool q)) [] [] = some r → ((op = .eql ∧ q = b) ∨ (op = .neq ∧ q = !b)) → Sound P o ρ bl kk r := by
      intro q e hel hal hk' hop
      have hd := slice_type f hel hal
      subst hd
      refine Sound.pure hk' fun bl2 _ ok0 base pl w act hr hxs => ⟨.bool q, ?_, rfl⟩
      have h1 := hxs x hx0
      have h2 := hxs y hy0
      rw [hx] at h1
      rw [hy] at h2
      obtain ⟨a, n, c, h1', hb⟩ := hc _ _ h1
      have h2' : act.eval y = .slice none 0 0 := h2
      subst hb
      rcases hop with ⟨rfl, rfl⟩ | ⟨rfl, rfl⟩
      · simp [execOp, ho, h1', h2', eqGuard_slice, Go.binOp, Op.equal, Op.maxDepth, run_equalIn_nil w 9999 t e a n c f.under]
      · simp [execOp, ho, h1', h2', eqGuard_slice, Go.binOp, Op.equal, Op.maxDepth, run_equalIn_nil w 9999 t e a n c f.under]
    split at hk
    · rename_i e hel hal
      exact main _ e hel hal hk (.inl ⟨rfl, rfl⟩)
    · rename_i e hel hal
      exact main _ e hel hal hk (.inr ⟨rfl, rfl⟩)
    · cases hk
  · cases hk

theorem sound_binOp {T : TypeId → Option TI} (hT : TOk P T) {kk : K β} {op : BinOp} {t t' : TypeId} {x y : Operand} (ho : o.op = .binOp op t x y t') (hk : binRun T op t (ρ x) (ρ y) kk = some r) : Sound P o ρ bl kk r := by
  have hx0 : x ∈ o.op.operands := by simp [ho, Op.operands]
  have hy0 : y ∈ o.op.operands := by simp [ho, Op.operands]
  unfold binRun at hk
  split at hk
  · -- integers
    rename_i k a k' b hx hy
    cases hsh : isShift op with
    | true =>
      simp only [hsh, cond_true] at hk
      obtain ⟨hc, hk⟩ := given_some hk
      have hb0 : ¬ b < 0 := by have := of_decide_eq_true hc; omega
      refine Sound.pure hk fun bl2 _ ok0 base pl w act hr hxs => ⟨.int k (shiftOf op k a b), ?_, rfl⟩
      have h1 := hxs x hx0
      have h2 := hxs y hy0
      rw [hx] at h1
      rw [hy] at h2
      have h1' : act.eval x = .int k a := h1
      have h2' : act.eval y = .int k' b := h2
      cases op <;> simp only [isShift, Bool.false_eq_true] at hsh
      · simp [execOp, ho, h1', h2', eqGuard, Go.binOp, Op.shift, hb0, shiftOf]
      · simp [execOp, ho, h1', h2', eqGuard, Go.binOp, Op.shift, hb0, shiftOf]
    | false =>
    simp only [hsh, cond_false] at hk
    split at hk
    · rename_i hkk
      subst hkk
      have main : ∀ (v : Value) (c : C), kk (.c c) [] [] = some r → (∀ w, (Go.binOp op t (.int k a) (.int k b)).run P w = .ok v w) → (∀ E, CRep E c v) → Sound P o ρ bl kk r := by
        intro v c hk' hv hc
        refine Sound.pure hk' fun bl2 _ ok0 base pl w act hr hxs => ⟨v, ?_, hc _⟩
        have h1 := hxs x hx0
        have h2 := hxs y hy0
        rw [hx] at h1
        rw [hy] at h2
        have h1' : act.eval x = .int k a := h1
        have h2' : act.eval y = .int k b := h2
        simp [execOp, ho, h1', h2', eqGuard_int, hv]
      unfold binInt at hk
      split at hk
      · exact main (.int k (k.wrap (a + b))) _ hk (fun w => by simp [Go.binOp, Op.intArith]) (fun _ => rfl)
      · exact main (.int k (k.wrap (a - b))) _ hk (fun w => by simp [Go.binOp, Op.intArith]) (fun _ => rfl)
      · exact main (.int k (k.wrap (a * b))) _ hk (fun w => by simp [Go.binOp, Op.intArith]) (fun _ => rfl)
      · obtain ⟨hc, hk⟩ := given_some hk
        have hb : b ≠ 0 := by simpa using hc
        exact main (.int k (k.wrap (a.tdiv b))) _ hk (fun w => by simp [Go.binOp, Op.intDiv, hb]) (fun _ => rfl)
      · obtain ⟨hc, hk⟩ := given_some hk
        have hb : b ≠ 0 := by simpa using hc
        exact main (.int k (a.tmod b)) _ hk (fun w => by simp [Go.binOp, Op.intDiv, hb]) (fun _ => rfl)
      · exact main (.bool (decide (a = b))) _ hk (fun w => by simp [Go.binOp, Op.intCmp]; rfl) (fun _ => rfl)
      · exact main (.bool (!decide (a = b))) _ hk (fun w => by simp [Go.binOp, Op.intCmp, bne]; rfl) (fun _ => rfl)
      · exact main (.bool (decide (a < b))) _ hk (fun w => by simp [Go.binOp, Op.intCmp]) (fun _ => rfl)
      · exact main (.bool (decide (a ≤ b))) _ hk (fun w => by simp [Go.binOp, Op.intCmp]) (fun _ => rfl)
      · exact main (.bool (decide (b < a))) _ hk (fun w => by simp [Go.binOp, Op.intCmp]) (fun _ => rfl)
      · exact main (.bool (decide (b ≤ a))) _ hk (fun w => by simp [Go.binOp, Op.intCmp]) (fun _ => rfl)
      · exact main (.int k (bitsOf .and k a b)) _ hk (fun w => by simp [Go.binOp, Op.intBits, bitsOf]) (fun _ => rfl)
      · exact main (.int k (bitsOf .or k a b)) _ hk (fun w => by simp [Go.binOp, Op.intBits, bitsOf]) (fun _ => rfl)
      · exact main (.int k (bitsOf .xor k a b)) _ hk (fun w => by simp [Go.binOp, Op.intBits, bitsOf]) (fun _ => rfl)
      · exact main (.int k (bitsOf .andNot k a b)) _ hk (fun w => by simp [Go.binOp, Op.intBits, bitsOf]) (fun _ => rfl)
      · cases hk
    · cases hk
  · -- strings
    rename_i a b hx hy
    have main : ∀ (v : Value) (c : C), kk (.c c) [] [] = some r → (∀ w, (Go.binOp op t (.string ⟨a.toArray⟩) (.string ⟨b.toArray⟩)).run P w = .ok v w) → (∀ E, CRep E c v) → Sound P o ρ bl kk r := by
      intro v c hk' hv hc
      refine Sound.pure hk' fun bl2 _ ok0 base pl w act hr hxs => ⟨v, ?_, hc _⟩
      have h1 := hxs x hx0
      have h2 := hxs y hy0
      rw [hx] at h1
      rw [hy] at h2
      have h1' : act.eval x = .string ⟨a.toArray⟩ := h1
      have h2' : act.eval y = .string ⟨b.toArray⟩ := h2
      simp [execOp, ho, h1', h2', eqGuard_str, hv]
    have hbeq : (a == b) = decide (a = b) := by
      by_cases h : a = b <;> simp [h]
    unfold binStr at hk
    split at hk
    · obtain ⟨hc, hk⟩ := given_some hk
      have hle := of_decide_eq_true hc
      refine main (.string ⟨(a ++ b).toArray⟩) _ hk (fun w => ?_) (fun _ => rfl)
      have hsz : ¬ (((⟨a.toArray⟩ : ByteArray).size + (⟨b.toArray⟩ : ByteArray).size : Nat) : Int) > IntKind.i64.max := by
        show ¬ ((a.toArray.size + b.toArray.size : Nat) : Int) > 9223372036854775807
        simp only [List.size_toArray]
        omega
      have happ : (⟨a.toArray⟩ : ByteArray) ++ ⟨b.toArray⟩ = ⟨(a ++ b).toArray⟩ := by
        apply ByteArray.ext
        simp
      simp only [Go.binOp, Op.stringOp]
      rw [if_neg hsz, happ]
      rfl
    · exact main (.bool (decide (a = b))) _ hk (fun w => by simp [Go.binOp, Op.stringOp, hbeq]) (fun _ => rfl)
    · exact main (.bool (!decide (a = b))) _ hk (fun w => by simp [Go.binOp, Op.stringOp, hbeq]) (fun _ => rfl)
    · exact main (.bool (Op.bytesLess a b)) _ hk (fun w => by simp [Go.binOp, Op.stringOp]) (fun _ => rfl)
    · exact main (.bool (Op.bytesLess a b || decide (a = b))) _ hk (fun w => by simp [Go.binOp, Op.stringOp, hbeq]) (fun _ => rfl)
    · exact main (.bool (!(Op.bytesLess a b || decide (a = b)))) _ hk (fun w => by simp [Go.binOp, Op.stringOp, hbeq]) (fun _ => rfl)
    · exact main (.bool (!Op.bytesLess a b)) _ hk (fun w => by simp [Go.binOp, Op.stringOp]) (fun _ => rfl)
    · cases hk
  · -- bools
    rename_i a b hx hy
    split at hk
    · rename_i ti ht
      obtain ⟨i, d, z, f⟩ := hT.facts ht
      cases hbool : ti.isBool with
      | false => rw [hbool] at hk; cases hk
      | true =>
        simp only [hbool, cond_true] at hk
        have hu : P.underlying t = some .bool := by
          rw [f.isBool] at hbool
          unfold isBoolD at hbool
          split at hbool
          · exact f.under
          · cases hbool
        have main : ∀ (q : Bool), kk (.c (.bool q)) [] [] = some r → (∀ w, (Go.binOp op t (.bool a) (.bool b)).run P w = .ok (.bool q) w) → Sound P o ρ bl kk r := by
          intro q hk' hv
          refine Sound.pure hk' fun bl2 _ ok0 base pl w act hr hxs => ⟨.bool q, ?_, rfl⟩
          have h1 := hxs x hx0
          have h2 := hxs y hy0
          rw [hx] at h1
          rw [hy] at h2
          have h1' : act.eval x = .bool a := h1
          have h2' : act.eval y = .bool b := h2
          simp [execOp, ho, h1', h2', eqGuard_bool, hv]
        split at hk
        · exact main _ hk fun w => by
            simp only [Go.binOp]
            simp [Op.equal, Op.maxDepth, run_equalIn_bool' w 9999 t a b hu]
        · exact main _ hk fun w => by
            simp only [Go.binOp]
            simp [Op.equal, Op.maxDepth, run_equalIn_bool' w 9999 t a b hu]
        · cases hk
    · cases hk
  · -- structs and arrays
    rename_i a b hx hy
    split at hk
    · rename_i ti ht
      obtain ⟨i, d, z, f⟩ := hT.facts ht
      split at hk
      · rename_i ks heqs
        rw [f.eqs] at heqs
        have main : ∀ (q q' : Bool), eqCells ks a b = some q → kk (.c (.bool q')) [] [] = some r → ((op = .eql ∧ q' = q) ∨ (op = .neq ∧ q' = !q)) → Sound P o ρ bl kk r := by
          intro q q' hq hk' hop
          refine Sound.pure hk' fun bl2 _ ok0 base pl w act hr hxs => ⟨.bool q', ?_, rfl⟩
          have h1 := hxs x hx0
          have h2 := hxs y hy0
          rw [hx] at h1
          rw [hy] at h2
          obtain ⟨xs, h1', h1''⟩ := h1
          obtain ⟨ys, h2', h2''⟩ := h2
          simp only [if_true] at h1'' h2''
          obtain ⟨he, hg⟩ := run_eqAgg (P := P) heqs h1' h2' hq w
          rcases hop with ⟨rfl, rfl⟩ | ⟨rfl, rfl⟩
          · simp [execOp, ho, h1'', h2'', run_eqGuard_agg w _ t x y _ _ hg, run_eql_struct, he]
          · simp [execOp, ho, h1'', h2'', run_eqGuard_agg w _ t x y _ _ hg, run_neq_struct, he]
        split at hk
        · rename_i q hq
          exact main _ _ hq hk (.inl ⟨rfl, rfl⟩)
        · rename_i q hq
          exact main _ _ hq hk (.inr ⟨rfl, rfl⟩)
        · cases hk
      · cases hk
    · cases hk
  · rename_i hx hy
    exact sound_nilTest hT ho hx hy (fun E v hv => by obtain ⟨c, rfl⟩ := hv; exact ⟨none, 0, c, rfl, rfl⟩) hk
  · rename_i e l hx hy
    refine sound_nilTest hT ho hx hy (fun E v hv => ?_) hk
    obtain ⟨hd, hn⟩ := hv
    simp only [DRep] at hd
    obtain ⟨A, c, xs, e1, _⟩ := hd
    simp only [List.cons.injEq, and_true] at e1
    subst e1
    cases A with
    | none => exact absurd rfl (hn _ _)
    | some a => exact ⟨some a, _, _, rfl, rfl⟩
  · cases hk
end
end Go.Lift
