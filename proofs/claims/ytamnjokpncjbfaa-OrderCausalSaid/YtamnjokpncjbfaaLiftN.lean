/- The lifter, part N: every operation; a region. -/
import Derived.Test.YtamnjokpncjbfaaLiftMf
namespace Go.Lift
open Go.RowKit

section
variable {P : Program} {o : Oper} {ρ : Operand → V} {bl : Nat → Option Blk} {β : Type} {r : β}

theorem vreps_map {E : Env} {a : Act} : ∀ {xs : List Operand}, (∀ x ∈ xs, VRep E (ρ x) (a.eval x)) → VReps E (xs.map ρ) (xs.map a.eval)
  | [], _ => rfl
  | x :: xs, h => ⟨_, _, rfl, h x (by simp), vreps_map fun y hy => h y (by simp [hy])⟩

theorem VReps.append {E : Env} : ∀ {vs us ws xs}, VReps E vs us → VReps E ws xs → VReps E (vs ++ ws) (us ++ xs)
  | [], us, _, _, h, k => by have h' : us = [] := h; subst h'; exact k
  | _ :: _, _, _, _, ⟨u, us', e, h1, h2⟩, k => ⟨u, us' ++ _, by rw [e]; rfl, h1, VReps.append h2 k⟩

theorem caps_rep {E : Env} : ∀ {caps gs : List Nat}, caps.map E.pl = gs.map (fun g => some (.cells g)) → VReps E (caps.map fun b => .c (.ptr b 0)) (gs.map fun g => .pointer (some ⟨g, 0, none⟩))
  | [], gs, h => by cases gs with | nil => rfl | cons g gs => simp at h
  | b :: bs, gs, h => by
    cases gs with
    | nil => simp at h
    | cons g gs =>
      simp only [List.map_cons, List.cons.injEq] at h
      exact ⟨_, _, rfl, ⟨g, h.1, rfl⟩, caps_rep h.2⟩

theorem sound_callFn {X : Ctx} (hΓ : ΓOk P X.Γ) {kk : K β} {nx : Nat} {c : Call} (ho : o.op = .call c) {x : Operand} (hc : c.callee = .value x) {f : FuncId} {caps : List Nat} (hx : ρ x = .c (.fn f caps))
    (hk : callRun X bl nx f (c.args.toList.map ρ ++ caps.map fun b => .c (.ptr b 0)) kk = some r) : Sound P o ρ bl kk r := by
  refine sound_call hΓ hk fun bl2 ok0 base pl w a hr hxs => ?_
  have hv := hxs x (by simp [ho, Op.operands, Call.operands, hc])
  rw [hx] at hv
  obtain ⟨gs, hg, hv⟩ := hv
  refine ⟨c.args.toList.map a.eval ++ gs.map fun g => .pointer (some ⟨g, 0, none⟩), ?_, fun ⟨fn, h1, h2, h3⟩ => ?_⟩
  · exact (vreps_map fun y hy => hxs y (by simp only [ho, Op.operands, Call.operands, Array.mem_append]; exact .inr (by simpa using hy))).append (caps_rep hg)
  · have he : c.args.map a.eval ++ (gs.map fun g => Value.pointer (some ⟨g, 0, none⟩)).toArray = (c.args.toList.map a.eval ++ gs.map fun g => Value.pointer (some ⟨g, 0, none⟩)).toArray := by
      apply Array.ext'
      simp
    simp only [execOp, ho, resolve, hc, hv, Deferred.ofValue, Sem.run_bind, Sem.run_pure, Result.andThen_ok, invoke, callFunc, run_program, h1, h2, h3, Array.empty_append, Bool.false_eq_true, if_false, he]

theorem opRun_sound {X : Ctx} (hT : TOk P X.T) (hΓ : ΓOk P X.Γ) {kk : K β} {nx : Nat} (hk : opRun X o ρ bl nx kk = some r) : Sound P o ρ bl kk r := by
  unfold opRun at hk
  split at hk
  · rename_i x ho; exact sound_move (.inl ho) hk
  · rename_i x ho; exact sound_move (.inr ho) hk
  · rename_i c a b ho
    split at hk
    · rename_i g hc; exact sound_pick ho hc hk
    · cases hk
  · rename_i t ho
    split at hk
    · rename_i ti ht; exact sound_alloc hT ho ht hk
    · cases hk
  · rename_i t x ho
    split at hk
    · rename_i cs hc; exact sound_box ho hc hk
    · cases hk
  · rename_i t parts ho
    split at hk
    · rename_i ti ht
      cases hagg : ti.agg with
      | false => rw [hagg] at hk; cases hk
      | true =>
        simp only [hagg, cond_true] at hk
        split at hk
        · rename_i ps hps
          split at hk
          · rename_i cs hcs; exact sound_build hT ho ht hagg hps hcs hk
          · cases hk
        · cases hk
    · cases hk
  · rename_i t n parts ho
    cases hM : (X.M && isMatT X.T t) with
    | true => rw [hM, cond_true] at hk; exact sound_buildMat hT ho hk
    | false =>
    rw [hM, cond_false] at hk
    refine sound_frzAll (xs := parts.toList.map (·.2)) (fun x hx => by simpa [ho, Op.operands] using hx) (by rw [List.map_map]; exact hk) fun bl' kk' h => ?_
    exact sound_buildSlice (ρ := fun x => frzV bl (ρ x)) hT ho h
  · rename_i t a ho; exact sound_load hT ho hk
  · rename_i t a x ho
    split at hk
    · exact sound_frzAll (xs := [a, x]) (fun y hy => by simpa [ho, Op.operands] using hy) hk fun bl' kk' h => sound_store (ρ := fun x => frzV bl (ρ x)) hT ho h
    · exact sound_store hT ho hk
  · rename_i x ho
    split at hk
    · rename_i b of hx; exact sound_nilCheck ho (.inl ⟨b, of, hx⟩) (by rw [hx]; exact hk)
    · rename_i b ver i of hx; exact sound_nilCheck ho (.inr (.inl ⟨b, ver, i, of, hx⟩)) (by rw [hx]; exact hk)
    · rename_i e y of hx; exact sound_nilCheck ho (.inr (.inr (.inl ⟨e, y, of, hx⟩))) (by rw [hx]; exact hk)
    · rename_i b ver i hx; exact sound_nilCheck ho (.inr (.inr (.inr (.inr (.inl ⟨b, ver, i, hx⟩))))) (by rw [hx]; exact hk)
    · rename_i b ver i j of hx; exact sound_nilCheck ho (.inr (.inr (.inr (.inr (.inr ⟨b, ver, i, j, of, hx⟩))))) (by rw [hx]; exact hk)
    · rename_i f caps hx; exact sound_nilCheck ho (.inr (.inr (.inr (.inl ⟨f, caps, hx⟩)))) (by rw [hx]; exact hk)
    · cases hk
  · rename_i op t x y t' ho; exact sound_binOp hT ho hk
  · rename_i op t x ho
    split at hk
    · rename_i b hx; exact sound_not ho hx hk
    · rename_i k n hx; exact sound_neg ho hx hk
    · cases hk
  · rename_i s t x ho
    split at hk
    · rename_i si ti k0 n hs ht hx
      split at hk
      · rename_i k hkd; exact sound_convInt hT ho hs ht hx hkd hk
      · cases hk
    · rename_i si ti l hs ht hx
      cases hstr : ti.isStr with
      | false => rw [hstr] at hk; cases hk
      | true => simp only [hstr, cond_true] at hk; exact sound_convStr hT ho hs ht hx hstr hk
    · rename_i si ti hs ht _ _; exact sound_bytes hT ho hs ht hk
    · cases hk
  · rename_i f first caps ho
    split at hk
    · rename_i hf
      split at hk
      · rename_i bs hb; exact sound_makeFunc ho hf hb hk
      · cases hk
    · cases hk
  · rename_i t n c ho
    cases hM : (X.M && isMatT X.T t) with
    | true => rw [hM, cond_true] at hk; exact sound_makeMat hT ho hk
    | false => rw [hM, cond_false] at hk; exact sound_make hT ho hk
  · rename_i t ho; exact sound_makeMap ho hk
  · rename_i t x i commaOk ho; exact sound_lookup hT ho hk
  · rename_i t x i y ho
    exact sound_frzAll (xs := [x, i, y]) (fun z hz => by simpa [ho, Op.operands] using hz) hk fun bl' kk' h => sound_update (ρ := fun x => frzV bl (ρ x)) hT ho h
  · rename_i t x lo hi ho; exact sound_slice hT ho hk
  · rename_i t x f ho; exact sound_fieldAddr hT ho hk
  · rename_i t x f ho
    split at hk
    · rename_i ti cs ht hx
      split at hk
      · rename_i off n g hf
        cases h1 : (g || Nat.beq n 1) with
        | false => rw [h1] at hk; cases hk
        | true =>
          simp only [h1, cond_true] at hk
          split at hk
          · rename_i rc hs; exact sound_field hT ho ht hx hf h1 hs hk
          · cases hk
      · cases hk
    · cases hk
  · rename_i t x i ho; exact sound_indexAddr hT ho hk
  · rename_i t x i ho
    split at hk
    · rename_i ti s k j ht hx hi
      cases hstr : ti.isStr with
      | false => rw [hstr] at hk; cases hk
      | true =>
        simp only [hstr, cond_true] at hk
        obtain ⟨hc, hk⟩ := given_some hk
        obtain ⟨c1, c2⟩ := andB hc
        exact sound_index hT ho ht hx hi hstr (of_decide_eq_true c1) (of_decide_eq_true c2) hk
    · rename_i ti cs k j ht hx hi; exact sound_indexArr hT ho ht hx hi hk
    · cases hk
  · rename_i x i ho
    split at hk
    · rename_i ts hx
      split at hk
      · rename_i t ht; exact sound_extract ho hx ht hk
      · cases hk
    · cases hk
  · rename_i c ho
    split at hk
    · rename_i hc
      split at hk
      · rename_i x t hx ht
        cases hargs : c.args.toList with
        | nil => rw [hargs] at hx; simp at hx
        | cons y ys =>
          rw [hargs] at hx
          cases ys with
          | cons _ _ => simp at hx
          | nil =>
            simp only [List.map_cons, List.map_nil, List.cons.injEq, and_true] at hx
            subst hx
            exact sound_len hT ho hc hargs ht hk
      · cases hk
    · rename_i hc
      split at hk
      · rename_i v hm; exact sound_minmax (isMax := false) ho hc hm hk
      · cases hk
    · rename_i hc
      split at hk
      · rename_i v hm; exact sound_minmax (isMax := true) ho hc hm hk
      · cases hk
    · rename_i hc
      split at hk
      · rename_i x y t t' hx ht
        cases htt : Nat.beq t t' with
        | false => rw [htt] at hk; cases hk
        | true =>
          have := Nat.eq_of_beq_eq_true htt
          subst this
          simp only [htt, cond_true] at hk
          cases hargs : c.args.toList with
          | nil => rw [hargs] at hx; simp at hx
          | cons a as =>
            rw [hargs] at hx
            cases as with
            | nil => simp at hx
            | cons b bs =>
              cases bs with
              | cons _ _ => simp at hx
              | nil =>
                simp only [List.map_cons, List.map_nil, List.cons.injEq, and_true] at hx
                obtain ⟨h1, h2⟩ := hx
                subst h1 h2
                cases hM : (X.M && isMatT X.T t) with
                | true => rw [hM, cond_true] at hk; exact sound_appendMat hT ho hc hargs ht hk
                | false => rw [hM, cond_false] at hk; exact sound_append hT ho hc hargs ht hk
      · cases hk
    · rename_i hc
      split at hk
      · rename_i x y t t' hx ht
        cases htt : Nat.beq t t' with
        | false => rw [htt] at hk; cases hk
        | true =>
          have := Nat.eq_of_beq_eq_true htt
          subst this
          simp only [htt, cond_true] at hk
          cases hargs : c.args.toList with
          | nil => rw [hargs] at hx; simp at hx
          | cons a as =>
            rw [hargs] at hx
            cases as with
            | nil => simp at hx
            | cons b bs =>
              cases bs with
              | cons _ _ => simp at hx
              | nil =>
                simp only [List.map_cons, List.map_nil, List.cons.injEq, and_true] at hx
                obtain ⟨h1, h2⟩ := hx
                subst h1 h2
                exact sound_copy hT ho hc hargs ht hk
      · cases hk
    · cases hk
    · split at hk
      · rename_i f caps hcal
        unfold calleeOf at hcal
        split at hcal
        · rename_i x hc
          split at hcal
          · rename_i f' bs hx
            simp only [Option.some.injEq, Prod.mk.injEq] at hcal
            obtain ⟨rfl, rfl⟩ := hcal
            exact sound_callFn hΓ ho hc hx hk
          · cases hcal
        · cases hcal
      · cases hk
  · cases hk
end
end Go.Lift
