/- The lifter, part O: regions, in whatever order. -/
import Derived.Test.YtamnjokpncjbfaaLiftN
namespace Go.Lift
open Go.RowKit

structure Rel (n : Nat) (ok0 : Nat → Prop) (base : Nat) (pl : Nat → Option Pl) (tm : Nat → Option V) (bl : Nat → Option Blk) (a : Act) (w : World) : Prop where
  defers : a.defers = []
  size : a.tmps.size = n
  tmps : ∀ t v, tm t = some v → VRep (envOf ok0 base pl bl w) v (a.tmps.getD t undef)
  rel : RelB ok0 base pl bl w

def updD (tm : Nat → Option V) (dst : Option Nat) (v : V) : Nat → Option V :=
  match dst with
  | some d => upd tm d v
  | none => tm

theorem look_putD (tm : List (Nat × V)) (dst : Option Nat) (v : V) : look (putD tm dst v) = updD (look tm) dst v := by
  cases dst with
  | none => rfl
  | some d => funext j; simp only [putD, updD, look_put, upd]

def evalF (tm : Nat → Option V) : Operand → V
  | .tmp t =>
    match tm t with
    | some v => v
    | none => .junk
  | .const v => V.ofValue v
  | .global _ => .junk
  | .func f => .c (.fn f [])

theorem evalV_eq (tm : List (Nat × V)) : evalV tm = evalF (look tm) := by
  funext x
  cases x <;> rfl

theorem evalF_rep {n : Nat} {ok0 : Nat → Prop} {base : Nat} {pl : Nat → Option Pl} {tm : Nat → Option V} {bl : Nat → Option Blk} {a : Act} {w : World} (h : Rel n ok0 base pl tm bl a w) (x : Operand) : VRep (envOf ok0 base pl bl w) (evalF tm x) (a.eval x) := by
  cases x with
  | tmp t =>
    simp only [evalF, Act.eval]
    split
    · rename_i v hv; exact h.tmps t v hv
    · exact trivial
  | const v => exact V.ofValue_rep v
  | global g => exact trivial
  | func f => exact ⟨[], rfl, rfl⟩

section
variable {P : Program} {ops : Array Oper} {n : Nat}

/-- A logged operation does what the log says, from whatever state agrees on what it reads. -/
def EOk (P : Program) (ops : Array Oper) (n : Nat) (e : LogE) (tmA : Nat → Option V) (blA : Nat → Option Blk) : Prop :=
  ∀ (tm : Nat → Option V) (bl : Nat → Option Blk), (∀ t ∈ e.tin, tm t = tmA t) → (∀ b ∈ e.rd, bl b = blA b) →
    ∀ (ok0 : Nat → Prop) (base : Nat) (pl : Nat → Option Pl) (a : Act) (w : World), Rel n ok0 base pl tm bl a w →
    ∀ (K : Act → World → Prop) (Q : Exit → Act → World → Prop),
      (∀ pl' a' w', Rel n ok0 base pl' (updD tm e.dst e.v) (updL bl e.wr) a' w' → Step pl bl w pl' (updL bl e.wr) w' → K a' w') → wpOp P ops Q e.i K a w

def Valid (P : Program) (ops : Array Oper) (n : Nat) : List LogE → (Nat → Option V) → (Nat → Option Blk) → Prop
  | [], _, _ => True
  | e :: es, tm, bl => EOk P ops n e tm bl ∧ Valid P ops n es (updD tm e.dst e.v) (updL bl e.wr)

def finT : List LogE → (Nat → Option V) → Nat → Option V
  | [], tm => tm
  | e :: es, tm => finT es (updD tm e.dst e.v)
def finB : List LogE → (Nat → Option Blk) → Nat → Option Blk
  | [], bl => bl
  | e :: es, bl => finB es (updL bl e.wr)

theorem EOk.agree {e : LogE} {tmA tmB : Nat → Option V} {blA blB : Nat → Option Blk} (h : EOk P ops n e tmA blA) (ht : ∀ t ∈ e.tin, tmB t = tmA t) (hb : ∀ b ∈ e.rd, blB b = blA b) : EOk P ops n e tmB blB :=
  fun tm bl h1 h2 => h tm bl (fun t hm => (h1 t hm).trans (ht t hm)) (fun b hm => (h2 b hm).trans (hb b hm))

theorem updD_other {tm : Nat → Option V} {dst : Option Nat} {v : V} {t : Nat} (h : dst ≠ some t) : updD tm dst v t = tm t := by
  cases dst with
  | none => rfl
  | some d =>
    have : t ≠ d := fun e => h (by rw [e])
    simp [updD, upd, this]

theorem meet_iff {a b : List Nat} : meet a b = false ↔ ∀ x ∈ a, x ∉ b := by
  induction a with
  | nil => simp [meet]
  | cons y r ih =>
    simp only [meet, Bool.or_eq_false_iff, ih, List.mem_cons, forall_eq_or_imp]
    constructor
    · rintro ⟨h1, h2⟩
      exact ⟨fun hm => (by rw [memB_iff.2 hm] at h1; cases h1), h2⟩
    · rintro ⟨h1, h2⟩
      refine ⟨?_, h2⟩
      cases hm : memB y b with
      | false => rfl
      | true => exact absurd (memB_iff.1 hm) h1

structure Apart (x y : LogE) : Prop where
  t1 : ∀ t ∈ y.tin, x.dst ≠ some t
  t2 : ∀ t ∈ x.tin, y.dst ≠ some t
  t3 : ∀ d, x.dst = some d → y.dst ≠ some d
  b1 : ∀ b ∈ y.rd, b ∉ wids x.wr
  b2 : ∀ b ∈ x.rd, b ∉ wids y.wr
  b3 : ∀ b ∈ wids x.wr, b ∉ wids y.wr

theorem apart_of_clash {x y : LogE} (h : clash x y = false) : Apart x y := by
  unfold clash at h
  simp only [Bool.or_eq_false_iff] at h
  obtain ⟨⟨⟨h1, h2⟩, h3⟩, h4⟩ := h
  have h3 := meet_iff.1 h3
  have h4 := meet_iff.1 h4
  refine ⟨fun t ht hd => ?_, fun t ht hd => ?_, fun d hd hd' => ?_, fun b hb hw => ?_, fun b hb hw => h4 b hw hb, fun b hb hw => ?_⟩
  · rw [hd] at h1
    simp only [Bool.or_eq_false_iff] at h1
    rw [memB_iff.2 ht] at h1
    cases h1.1
  · rw [hd] at h2
    simp only at h2
    rw [memB_iff.2 ht] at h2
    cases h2
  · rw [hd, hd'] at h1
    simp only [Bool.or_eq_false_iff] at h1
    rw [beq_self] at h1
    cases h1.2
  · exact h3 b hw (List.mem_append_left _ hb)
  · exact h3 b hb (List.mem_append_right _ hw)

theorem upd_comm {x y : LogE} (h : Apart x y) (tm : Nat → Option V) (bl : Nat → Option Blk) :
    updD (updD tm x.dst x.v) y.dst y.v = updD (updD tm y.dst y.v) x.dst x.v ∧ updL (updL bl x.wr) y.wr = updL (updL bl y.wr) x.wr := by
  constructor
  · cases hx : x.dst with
    | none => rfl
    | some d =>
      cases hy : y.dst with
      | none => rfl
      | some d' =>
        have hne : d ≠ d' := fun e => h.t3 d hx (by rw [hy, e])
        funext j
        simp only [updD, upd]
        by_cases h1 : j = d'
        · by_cases h2 : j = d
          · exact absurd (h2.symm.trans h1) hne
          · simp [h1, Ne.symm hne]
        · by_cases h2 : j = d <;> simp [h1, h2, hne]
  · funext b
    by_cases h1 : b ∈ wids y.wr
    · have h2 : b ∉ wids x.wr := fun h2 => h.b3 b h2 h1
      rw [updL_mem (bl' := bl) h1, updL_other (bl := updL bl y.wr) h2]
    · rw [updL_other h1]
      by_cases h2 : b ∈ wids x.wr
      · exact updL_mem h2
      · rw [updL_other h2, updL_other h2, updL_other h1]

/-- An operation that clashes with none before it may go first. -/
theorem Valid.bubble {e : LogE} {post : List LogE} : ∀ {pre : List LogE} {tm : Nat → Option V} {bl : Nat → Option Blk}, Valid P ops n (pre ++ e :: post) tm bl → (∀ x ∈ pre, Apart x e) →
    EOk P ops n e tm bl ∧ Valid P ops n (pre ++ post) (updD tm e.dst e.v) (updL bl e.wr) ∧ finT (pre ++ e :: post) tm = finT (pre ++ post) (updD tm e.dst e.v) ∧ finB (pre ++ e :: post) bl = finB (pre ++ post) (updL bl e.wr)
  | [], tm, bl, h, _ => ⟨h.1, h.2, rfl, rfl⟩
  | x :: pre, tm, bl, h, ha => by
    have hx := ha x (by simp)
    obtain ⟨h1, h2, h3, h4⟩ := Valid.bubble h.2 fun y hy => ha y (by simp [hy])
    obtain ⟨c1, c2⟩ := upd_comm hx tm bl
    refine ⟨h1.agree (fun t ht => (updD_other (hx.t1 t ht)).symm) (fun b hb => (updL_other (hx.b1 b hb)).symm), ⟨?_, ?_⟩, ?_, ?_⟩
    · exact EOk.agree h.1 (fun t ht => updD_other (hx.t2 t ht)) (fun b hb => updL_other (hx.b2 b hb))
    · show Valid P ops n (pre ++ post) (updD (updD tm e.dst e.v) x.dst x.v) (updL (updL bl e.wr) x.wr)
      rw [← c1, ← c2]
      exact h2
    · show finT (pre ++ e :: post) (updD tm x.dst x.v) = finT (pre ++ post) (updD (updD tm e.dst e.v) x.dst x.v)
      rw [h3, c1]
    · show finB (pre ++ e :: post) (updL bl x.wr) = finB (pre ++ post) (updL (updL bl e.wr) x.wr)
      rw [h4, c2]

/-! ### In the order of the text -/
theorem wpOps_valid {Q : Exit → Act → World → Prop} {ok0 : Nat → Prop} {base : Nat} : ∀ {es : List LogE} {pl : Nat → Option Pl} {tm : Nat → Option V} {bl : Nat → Option Blk} {a : Act} {w : World}, Valid P ops n es tm bl → Rel n ok0 base pl tm bl a w →
    (∀ pl' a' w', Rel n ok0 base pl' (finT es tm) (finB es bl) a' w' → Step pl bl w pl' (finB es bl) w' → Q .normal a' w') → wpOps P ops Q (es.map (·.i)) a w
  | [], pl, tm, bl, a, w, _, hr, hq => hq pl a w hr (Step.refl pl bl w)
  | e :: es, pl, tm, bl, a, w, hv, hr, hq => by
    rw [List.map_cons, wpOps_cons]
    refine hv.1 tm bl (fun _ _ => rfl) (fun _ _ => rfl) ok0 base pl a w hr _ Q fun pl' a' w' hr' hs' => ?_
    exact wpOps_valid hv.2 hr' fun pl2 a2 w2 hr2 hs2 => hq pl2 a2 w2 hr2 (hs'.trans hs2)

/-! ### Who comes before -/
theorem maskOf_bit {ms : List Nat} : ∀ {es : List Edge} {i : Nat}, Nat.testBit (maskOf ms es) i = true → ∃ e ∈ es, Region.binds .any e = true ∧ (e.on = i ∨ Nat.testBit (ms.getD e.on 0) i = true)
  | [], i, h => by simp [maskOf] at h
  | e :: r, i, h => by
    simp only [maskOf] at h
    have h' : Nat.testBit (maskOf ms r) i = true ∨ Nat.testBit (bif Region.binds .any e then Nat.lor (Nat.shiftLeft 1 e.on) (ms.getD e.on 0) else 0) i = true := by
      have h2 : Nat.testBit (maskOf ms r ||| (bif Region.binds .any e then Nat.lor (Nat.shiftLeft 1 e.on) (ms.getD e.on 0) else 0)) i = true := h
      rwa [Nat.testBit_or, Bool.or_eq_true] at h2
    rcases h' with h' | h'
    · obtain ⟨e', he, hb⟩ := maskOf_bit h'
      exact ⟨e', by simp [he], hb⟩
    · cases hb : Region.binds .any e with
      | false => rw [hb] at h'; simp at h'
      | true =>
        simp only [hb, cond_true] at h'
        have h3 : Nat.testBit (1 <<< e.on ||| ms.getD e.on 0) i = true := h'
        rw [Nat.testBit_or, Bool.or_eq_true] at h3
        refine ⟨e, by simp, hb, ?_⟩
        rcases h3 with h3 | h3
        · left
          rw [Nat.testBit_shiftLeft] at h3
          simp only [Bool.and_eq_true, decide_eq_true_eq, ge_iff_le] at h3
          obtain ⟨h4, h5⟩ := h3
          have h6 : i - e.on = 0 := by
            have := Nat.testBit_one_eq_true_iff_self_eq_zero.1 h5
            exact this
          omega
        · exact .inr h3

theorem masks_get : ∀ {l : List Oper} {acc : List Nat} {j : Nat}, (masks l acc)[acc.length + j]? = (l[j]?).map fun o => maskOf ((masks l acc).take (acc.length + j)) o.after.toList
  | [], acc, j => by simp [masks]
  | o :: r, acc, 0 => by
    have h1 : ∀ (l : List Oper) (a : List Nat), ∃ x, masks l a = a ++ x := by
      intro l
      induction l with
      | nil => intro a; exact ⟨[], by simp [masks]⟩
      | cons o l ih => intro a; obtain ⟨x, hx⟩ := ih (a ++ [maskOf a o.after.toList]); exact ⟨maskOf a o.after.toList :: x, by simp only [masks]; rw [hx]; simp⟩
    obtain ⟨x, hx⟩ := h1 r (acc ++ [maskOf acc o.after.toList])
    simp only [masks, hx]
    simp
  | o :: r, acc, j + 1 => by
    have ih := masks_get (l := r) (acc := acc ++ [maskOf acc o.after.toList]) (j := j)
    simp only [masks]
    simp only [List.length_append, List.length_singleton] at ih
    have e : acc.length + (j + 1) = acc.length + 1 + j := by omega
    rw [e, ih]
    simp

theorem ready_iff {listed : Array Bool} {i : Nat} : i ∈ Region.ready .any ops listed ↔ ∃ o, ops[i]? = some o ∧ listed.getD i true = false ∧ ∀ e ∈ o.after, Region.binds .any e = true → listed.getD e.on false = true := by
  unfold Region.ready
  rw [List.mem_filter, List.mem_range]
  constructor
  · rintro ⟨h1, h2⟩
    simp only [Bool.and_eq_true, Bool.not_eq_true'] at h2
    have ho : ops[i]? = some ops[i] := Array.getElem?_eq_getElem h1
    rw [ho] at h2
    simp only [Option.map_some, Option.getD_some, Array.all_eq_true_iff_forall_mem] at h2
    refine ⟨_, ho, h2.1, fun e he hb => ?_⟩
    have := h2.2 e he
    simpa [hb] using this
  · rintro ⟨o, ho, h1, h2⟩
    refine ⟨(Array.getElem?_eq_some_iff.1 ho).1, ?_⟩
    simp only [Bool.and_eq_true, Bool.not_eq_true']
    refine ⟨h1, ?_⟩
    rw [ho]
    simp only [Option.map_some, Option.getD_some, Array.all_eq_true_iff_forall_mem]
    intro e he
    cases hb : Region.binds .any e with
    | false => rfl
    | true => simpa using h2 e he hb

def Closed (ops : Array Oper) (listed : Array Bool) : Prop := ∀ (j : Nat) (o : Oper), ops[j]? = some o → listed.getD j false = true → ∀ e ∈ o.after, Region.binds .any e = true → listed.getD e.on false = true

theorem anc_listed {listed : Array Bool} (hc : Closed ops listed) (hback : ∀ (j : Nat) (o : Oper), ops[j]? = some o → ∀ e ∈ o.after, Region.binds .any e = true → e.on < j) :
    ∀ (j i : Nat) (o : Oper), ops[j]? = some o → Nat.testBit ((masks ops.toList []).getD j 0) i = true → (∀ e ∈ o.after, Region.binds .any e = true → listed.getD e.on false = true) → listed.getD i false = true := by
  intro j
  induction j using Nat.strongRecOn with
  | _ j ih =>
    intro i o ho hbit hl
    have hm := masks_get (l := ops.toList) (acc := []) (j := j)
    simp only [List.length_nil, Nat.zero_add] at hm
    have ho' : ops.toList[j]? = some o := by simpa using ho
    rw [ho'] at hm
    simp only [Option.map_some] at hm
    rw [List.getD, hm] at hbit
    simp only [Option.getD_some] at hbit
    obtain ⟨e, he, hb, h⟩ := maskOf_bit hbit
    have he' : e ∈ o.after := by simpa using he
    have hlt := hback j o ho e he' hb
    have hle := hl e he' hb
    rcases h with h | h
    · rw [← h]; exact hle
    · have hon : e.on < ops.size := Nat.lt_trans hlt (Array.getElem?_eq_some_iff.1 ho).1
      have ho2 : ops[e.on]? = some ops[e.on] := Array.getElem?_eq_getElem hon
      refine ih e.on hlt i _ ho2 ?_ (hc e.on _ ho2 hle)
      rw [List.getD, List.getElem?_take_of_lt hlt] at h
      exact h

/-! ### In whatever order -/
theorem wpAny_valid {Q : Exit → Act → World → Prop} {ok0 : Nat → Prop} {base : Nat} (hback : ∀ (j : Nat) (o : Oper), ops[j]? = some o → ∀ e ∈ o.after, Region.binds .any e = true → e.on < j) :
    ∀ (k : Nat) {es : List LogE} {listed : Array Bool} {pl : Nat → Option Pl} {tm : Nat → Option V} {bl : Nat → Option Blk} {a : Act} {w : World}, es.length = k → listed.size = ops.size → Closed ops listed →
    (∀ i, i < ops.size → (listed.getD i true = false ↔ ∃ e ∈ es, e.i = i)) → es.Pairwise (fun x y => x.i < y.i) → (∀ e ∈ es, e.i < ops.size) →
    es.Pairwise (fun x y => clash x y = false ∨ Nat.testBit ((masks ops.toList []).getD y.i 0) x.i = true) →
    Valid P ops n es tm bl → Rel n ok0 base pl tm bl a w →
    (∀ pl' a' w', Rel n ok0 base pl' (finT es tm) (finB es bl) a' w' → Step pl bl w pl' (finB es bl) w' → Q .normal a' w') → wpAny P .any ops Q k listed a w := by
  intro k
  induction k with
  | zero =>
    intro es listed pl tm bl a w hk hsz hc hl hs hlt hf hv hr hq
    have : es = [] := List.eq_nil_of_length_eq_zero hk
    subst this
    refine ⟨?_, hq pl a w hr (Step.refl pl bl w)⟩
    cases hrd : Region.ready .any ops listed with
    | nil => rfl
    | cons i r =>
      have hi : i ∈ Region.ready .any ops listed := by rw [hrd]; simp
      obtain ⟨o, ho, h1, _⟩ := ready_iff.1 hi
      obtain ⟨e, he, _⟩ := (hl i (Array.getElem?_eq_some_iff.1 ho).1).1 h1
      simp at he
  | succ k ih =>
    intro es listed pl tm bl a w hk hsz hc hl hs hlt hf hv hr hq
    refine ⟨fun hrd => ?_, fun i hi => ?_⟩
    · -- the least that is not listed is ready
      exfalso
      cases es with
      | nil => simp at hk
      | cons e es =>
        have hei := hlt e (by simp)
        have ho : ops[e.i]? = some ops[e.i] := Array.getElem?_eq_getElem hei
        have : e.i ∈ Region.ready .any ops listed := by
          refine ready_iff.2 ⟨_, ho, (hl e.i hei).2 ⟨e, by simp, rfl⟩, fun d hd hb => ?_⟩
          have hdl := hback e.i _ ho d hd hb
          have hds : d.on < ops.size := by omega
          cases hg : listed.getD d.on true with
          | true =>
            have hdl' : d.on < listed.size := by omega
            simp only [Array.getD_eq_getD_getElem?, Array.getElem?_eq_getElem hdl', Option.getD_some] at hg ⊢
            exact hg
          | false =>
            obtain ⟨x, hx, hxi⟩ := (hl d.on hds).1 hg
            rcases List.mem_cons.1 hx with rfl | hx
            · omega
            · have := (List.pairwise_cons.1 hs).1 x hx
              omega
        rw [hrd] at this
        simp at this
    · obtain ⟨o, ho, h1, h2⟩ := ready_iff.1 hi
      have hisz := (Array.getElem?_eq_some_iff.1 ho).1
      obtain ⟨e, he, hei⟩ := (hl i hisz).1 h1
      obtain ⟨pre, post, rfl⟩ := List.append_of_mem he
      have hpf := List.pairwise_append.1 hf
      have hps := List.pairwise_append.1 hs
      have hap : ∀ x ∈ pre, Apart x e := by
        intro x hx
        rcases hpf.2.2 x hx e (by simp) with h | h
        · exact apart_of_clash h
        · exfalso
          rw [hei] at h
          have hxl := anc_listed hc hback i x.i o ho h h2
          have hxs := hlt x (by simp [hx])
          have hxu := (hl x.i hxs).2 ⟨x, by simp [hx], rfl⟩
          have hxs' : x.i < listed.size := by omega
          simp only [Array.getD_eq_getD_getElem?, Array.getElem?_eq_getElem hxs', Option.getD_some] at hxl hxu
          rw [hxl] at hxu
          cases hxu
      obtain ⟨b1, b2, b3, b4⟩ := Valid.bubble hv hap
      subst hei
      refine b1 tm bl (fun _ _ => rfl) (fun _ _ => rfl) ok0 base pl a w hr _ Q fun pl' a' w' hr' hs' => ?_
      refine ih (es := pre ++ post) (by simp at hk ⊢; omega) (by simpa using hsz) ?_ ?_ ?_ ?_ ?_ b2 hr' ?_
      · -- what is listed stays closed
        intro j oj hoj hj d hd hb
        have hget : ∀ q, listed.getD q false = true → (listed.setIfInBounds e.i true).getD q false = true := by
          intro q hq
          simp only [Array.getD_eq_getD_getElem?, Array.getElem?_setIfInBounds]
          split
          · split <;> simp_all
          · simpa [Array.getD_eq_getD_getElem?] using hq
        refine hget _ ?_
        by_cases hje : j = e.i
        · subst hje
          rw [ho] at hoj
          injection hoj with hoj
          subst hoj
          exact h2 d hd hb
        · refine hc j oj hoj ?_ d hd hb
          simp only [Array.getD_eq_getD_getElem?, Array.getElem?_setIfInBounds] at hj ⊢
          rw [if_neg (fun h => hje h.symm)] at hj
          exact hj
      · intro q hq
        have hqs : q < listed.size := by omega
        have hes : e.i < listed.size := by omega
        by_cases hqe : q = e.i
        · subst hqe
          constructor
          · intro h
            simp [Array.getD_eq_getD_getElem?, hes] at h
          · rintro ⟨x, hx, hxi⟩
            exfalso
            rcases List.mem_append.1 hx with hx | hx
            · have := hps.2.2 x hx e (by simp); omega
            · have := (List.pairwise_cons.1 hps.2.1).1 x hx; omega
        · have h3 : (listed.setIfInBounds e.i true).getD q true = listed.getD q true := by
            simp only [Array.getD_eq_getD_getElem?, Array.getElem?_setIfInBounds]
            rw [if_neg (fun h => hqe h.symm)]
          rw [h3, hl q hq]
          constructor
          · rintro ⟨x, hx, hxi⟩
            refine ⟨x, ?_, hxi⟩
            rcases List.mem_append.1 hx with hx | hx
            · exact List.mem_append_left _ hx
            · rcases List.mem_cons.1 hx with rfl | hx
              · exact absurd hxi.symm hqe
              · exact List.mem_append_right _ hx
          · rintro ⟨x, hx, hxi⟩
            refine ⟨x, ?_, hxi⟩
            rcases List.mem_append.1 hx with hx | hx
            · exact List.mem_append_left _ hx
            · exact List.mem_append_right _ (List.mem_cons_of_mem _ hx)
      · exact List.pairwise_append.2 ⟨hps.1, (List.pairwise_cons.1 hps.2.1).2, fun x hx y hy => hps.2.2 x hx y (by simp [hy])⟩
      · intro x hx
        refine hlt x ?_
        rcases List.mem_append.1 hx with hx | hx
        · exact List.mem_append_left _ hx
        · exact List.mem_append_right _ (List.mem_cons_of_mem _ hx)
      · exact List.pairwise_append.2 ⟨hpf.1, (List.pairwise_cons.1 hpf.2.1).2, fun x hx y hy => hpf.2.2 x hx y (by simp [hy])⟩
      · intro pl2 a2 w2 hr2 hs2
        rw [← b3, ← b4] at hr2
        rw [← b4] at hs2
        exact hq pl2 a2 w2 hr2 (hs'.trans hs2)
end
end Go.Lift
