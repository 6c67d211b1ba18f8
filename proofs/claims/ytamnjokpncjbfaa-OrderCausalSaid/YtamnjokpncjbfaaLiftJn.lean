/- The lifter, part Jn: append of slices of slices; copy; bytes as a string. -/
import Derived.Test.YtamnjokpncjbfaaLiftJm
import Derived.Laws.BytesArg
namespace Go.Lift
open Go.RowKit

theorem MatOk.nil (E : Env) (t et : TypeId) (e : Ty) : MatOk E t et e none [] (.slice none 0 0) [] :=
  ⟨⟨[], World.ownsRow_nil _ _ _ _, fun i s h => by simp at h⟩, rfl, fun i h => by simp at h, fun i s x h => by simp at h, fun i s g h => by simp at h, fun i j s r g _ h => by simp at h⟩

theorem MatOk.full {E : Env} {t et : TypeId} {e : Ty} {l : List (List e.den)} {sv : Value} {svs : List (Option Value)} (h : MatOk E t et e none l sv svs) {i : Nat} (hi : i < l.length) : ∃ s, svs[i]? = some (some s) := by
  have hi2 : i < svs.length := by rw [h.len]; exact hi
  have h2 : svs[i]? = some svs[i] := List.getElem?_eq_getElem hi2
  cases hs : svs[i] with
  | some s => exact ⟨s, by rw [h2, hs]⟩
  | none => rw [hs] at h2; exact absurd (h.hole i h2) (by simp)

theorem MatOk.one {E : Env} {t et : TypeId} {e : Ty} {hole : Option Nat} {l : List (List e.den)} {sv : Value} {svs : List (Option Value)} (h : MatOk E t et e hole l sv svs) {i : Nat} {s : Value} (hs : svs[i]? = some (some s)) : s.oneCell' = true := by
  have hi : i < l.length := by rw [← h.len]; exact (List.getElem?_eq_some_iff.1 hs).1
  obtain ⟨xs, _, ho⟩ := h.inner i s l[i] hs (List.getElem?_eq_getElem hi)
  rcases ho.2 with ⟨rfl, _⟩ | ⟨g, cap, cur, rfl, _⟩ <;> rfl

theorem app_get {svs1 svs2 : List (Option Value)} {k : Nat} {s : Option Value} (h : (svs1 ++ svs2)[k]? = some s) : (k < svs1.length ∧ svs1[k]? = some s) ∨ (svs1.length ≤ k ∧ svs2[k - svs1.length]? = some s) := by
  rcases Nat.lt_or_ge k svs1.length with hk | hk
  · rw [List.getElem?_append_left hk] at h
    exact .inl ⟨hk, h⟩
  · rw [List.getElem?_append_right hk] at h
    exact .inr ⟨hk, h⟩

/-- Two slices of slices in one. -/
theorem MatOk.app {E E' : Env} (hb : E'.base = E.base) {t et : TypeId} {e : Ty} {l1 l2 : List (List e.den)} {sv1 sv2 v' : Value} {svs1 svs2 : List (Option Value)} {vs1 vs2 : List Value} (h1 : MatOk E t et e none l1 sv1 svs1) (h2 : MatOk E t et e none l2 sv2 svs2)
    (hown : E'.w.ownsRow E'.base t 1 v' (l1 ++ l2).length (vs1 ++ vs2)) (hl1 : vs1.length = l1.length) (hv1 : ∀ (i : Nat) (s : Value), svs1[i]? = some (some s) → vs1[i]? = some s) (hv2 : ∀ (i : Nat) (s : Value), svs2[i]? = some (some s) → vs2[i]? = some s)
    (hm : ∀ (x : e.den) u, DRep E.w E.ok e x u → DRep E'.w E'.ok e x u) (hs : ∀ g, ((∃ (i : Nat) (s : Value), svs1[i]? = some (some s) ∧ s.ownBlock = some g) ∨ (∃ (i : Nat) (s : Value), svs2[i]? = some (some s) ∧ s.ownBlock = some g)) → E'.w.heap[g]? = E.w.heap[g]? ∧ v'.ownBlock ≠ some g)
    (hx : ∀ (i j : Nat) (s r : Value) (g : Nat), svs1[i]? = some (some s) → svs2[j]? = some (some r) → s.ownBlock = some g → r.ownBlock ≠ some g) : MatOk E' t et e none (l1 ++ l2) v' (svs1 ++ svs2) := by
  have hsl : svs1.length = l1.length := h1.len
  refine ⟨⟨_, hown, fun k s hk => ?_⟩, by simp [h1.len, h2.len], fun k hk => ?_, fun k s x hk hkx => ?_, fun k s g hk hg => ?_, fun k j s r g hkj hk hj hg => ?_⟩
  · rcases app_get hk with ⟨h3, h4⟩ | ⟨h3, h4⟩
    · rw [List.getElem?_append_left (by omega)]
      exact hv1 k s h4
    · rw [List.getElem?_append_right (by omega), hl1, ← hsl]
      exact hv2 _ s h4
  · rcases app_get hk with ⟨h3, h4⟩ | ⟨h3, h4⟩
    · exact h1.hole k h4
    · have := h2.hole _ h4
      cases this
  · rcases app_get hk with ⟨h3, h4⟩ | ⟨h3, h4⟩
    · rw [List.getElem?_append_left (by omega)] at hkx
      obtain ⟨xs, q1, q2⟩ := h1.inner k s x h4 hkx
      exact ⟨xs, q1.mono hm, ownsRow_mono (by rw [hb]; exact Nat.le_refl _) (fun g hg => (hs g (.inl ⟨k, s, h4, hg⟩)).1) q2⟩
    · rw [List.getElem?_append_right (by omega), ← hsl] at hkx
      obtain ⟨xs, q1, q2⟩ := h2.inner _ s x h4 hkx
      exact ⟨xs, q1.mono hm, ownsRow_mono (by rw [hb]; exact Nat.le_refl _) (fun g hg => (hs g (.inr ⟨_, s, h4, hg⟩)).1) q2⟩
  · intro hg2
    rcases app_get hk with ⟨h3, h4⟩ | ⟨h3, h4⟩
    · exact (hs g (.inl ⟨k, s, h4, hg2⟩)).2 hg
    · exact (hs g (.inr ⟨_, s, h4, hg2⟩)).2 hg
  · rcases app_get hk with ⟨h3, h4⟩ | ⟨h3, h4⟩ <;> rcases app_get hj with ⟨h5, h6⟩ | ⟨h5, h6⟩
    · exact h1.sep k j s r g hkj h4 h6 hg
    · exact hx k _ s r g h4 h6 hg
    · exact fun hg2 => hx j _ r s g h6 h4 hg2 hg
    · exact h2.sep _ _ s r g (by omega) h4 h6 hg

section
variable {P : Program} {o : Oper} {ρ : Operand → V} {bl : Nat → Option Blk} {β : Type} {r : β}

theorem sound_appendMat {T : TypeId → Option TI} (hT : TOk P T) {kk : K β} {c : Call} (ho : o.op = .call c) (hc : c.callee = .builtin .append) {x y : Operand} {t : TypeId} {nx : Nat} (ha : c.args.toList = [x, y]) (hty : c.argTypes.toList = [t, t])
    (hk : appendMatRun T bl nx t (ρ x) (ρ y) kk = some r) : Sound P o ρ bl kk r := by
  have hargs : c.args = #[x, y] := by rw [← Array.toArray_toList (xs := c.args), ha]
  have hx0 : x ∈ o.op.operands := by simp [ho, Op.operands, Call.operands, hargs]
  have hy0 : y ∈ o.op.operands := by simp [ho, Op.operands, Call.operands, hargs]
  unfold appendMatRun at hk
  split at hk
  · cases hk
  rename_i ti ht
  obtain ⟨i, d, z, f⟩ := hT.facts ht
  split at hk
  · rename_i et hel hal
    have hd := slice_type f hel hal
    subst hd
    split at hk
    · cases hk
    rename_i te hte
    obtain ⟨i', d', z', fe⟩ := hT.facts hte
    cases hs : (Nat.beq 1 te.size && Nat.blt 0 te.bytes) with
    | false => rw [hs] at hk; cases hk
    | true =>
      obtain ⟨hs1, hs3⟩ := andB hs
      have hs1 := Nat.eq_of_beq_eq_true hs1
      have hs3 := blt_lt hs3
      simp only [hs, cond_true] at hk
      split at hk
      · rename_i b2 ver2 hyv
        split at hk
        · rename_i t2 et2 e ver2' iver2 new hb2l
          cases hvt : (Nat.beq ver2 ver2' && Nat.beq t2 et) with
          | false => rw [hvt] at hk; cases hk
          | true =>
            obtain ⟨hv1, hv2⟩ := andB hvt
            have := Nat.eq_of_beq_eq_true hv1
            subst this
            have := Nat.eq_of_beq_eq_true hv2
            subst this
            simp only [hvt, cond_true] at hk
            -- what the source is
            have hsrc : ∀ (bl2 : Nat → Option Blk), bl2 b2 = bl b2 → ∀ (ok0 : Nat → Prop) (base : Nat) (pl : Nat → Option Pl) (w : World) (a : Act), RelB ok0 base pl bl2 w → (∀ x ∈ o.op.operands, VRep (envOf ok0 base pl bl2 w) (ρ x) (a.eval x)) →
                ∃ svs2 vs2, bl2 b2 = some (.mat t2 et2 e ver2 iver2 none new) ∧ pl b2 = some (.row (a.eval y) svs2) ∧ MatOk (envOf ok0 base pl bl2 w) t2 et2 e none new (a.eval y) svs2 ∧ w.ownsRow base t2 1 (a.eval y) new.length vs2 ∧
                  (∀ (i : Nat) (s : Value), svs2[i]? = some (some s) → vs2[i]? = some s) ∧ (∀ u ∈ vs2, u.oneCell' = true) := by
              intro bl2 hb2 ok0 base pl w a hr hxs
              have hb' : bl2 b2 = some (.mat t2 et2 e ver2 iver2 none new) := hb2.trans hb2l
              have hv := hxs y hy0
              rw [hyv] at hv
              obtain ⟨_, sv, svs, hg, hcur⟩ := hv
              have hav := (hcur _ _ _ _ _ _ _ hb').2 rfl
              subst hav
              obtain ⟨p, hp, hB⟩ := hr.blks b2 _ hb'
              have : p = .row (a.eval y) svs := by have h2 : pl b2 = some (.row (a.eval y) svs) := hg; rw [hp] at h2; injection h2
              subst this
              have hM : MatOk _ t2 et2 e none new (a.eval y) svs := hB
              obtain ⟨vs, ho1, ho2⟩ := hM.outer
              refine ⟨svs, vs, hb', hp, hM, ho1, ho2, fun u hu => ?_⟩
              obtain ⟨k, hk, rfl⟩ := List.getElem_of_mem hu
              have hvl : vs.length = new.length := by rw [ho1.1, Nat.mul_one]
              obtain ⟨s, hs⟩ := hM.full (show k < new.length by omega)
              have h3 := ho2 k s hs
              rw [List.getElem?_eq_getElem hk] at h3
              injection h3 with h3
              rw [h3]
              exact hM.one hs
            split at hk
            · -- onto nil
              rename_i hx
              split at hk
              · rename_i hn
                obtain ⟨hroom, hk⟩ := given_some hk
                have hroom := of_decide_eq_true hroom
                refine ⟨_, _, _, hk, fun bl2 hb2 => ?_⟩
                have hn2 : bl2 nx = none := (hb2 nx (by simp)).trans hn
                intro ok0 base pl w a hr hxs K Q hK
                obtain ⟨svs2, vs2, hb', hp, hM, ho1, ho2, hone⟩ := hsrc bl2 (hb2 b2 (by simp)) ok0 base pl w a hr hxs
                have hbn : b2 ≠ nx := by rintro rfl; rw [hb'] at hn2; cases hn2
                have hv : a.eval x = .slice none 0 0 := by have := hxs x hx0; rw [hx] at this; exact this
                obtain ⟨v', w', hrun, hown, hgr, hloc⟩ := run_append_raw (P := P) w.heap.size fe f.under (ty := o.type) (by omega) hs3 (World.ownsRow_nil w w.heap.size t2 te.size) (by rw [← hs1]; exact ho1) hone (by simpa using hroom) (Nat.le_refl _)
                rw [← hs1] at hown
                simp only [Nat.zero_add, List.nil_append] at hown
                have hgr' : w.grownBy w' none := hgr
                have hv' : ∀ g, v'.ownBlock = some g → w.heap.size ≤ g := fun g hg => (hown.lt g hg).1
                have hownb : ∀ g, (Pl.row (a.eval y) svs2).has g → OwnAt pl bl2 b2 g := fun g h => ⟨_, _, hb', rfl, hp, h⟩
                have hltb : ∀ g, (Pl.row (a.eval y) svs2).has g → g < w.heap.size := fun g h => Own.lt hr ⟨b2, _, _, hb', rfl, hp, h⟩
                have hhas : ∀ g, (Pl.row v' svs2).has g → OwnAt pl bl2 b2 g ∨ OwnAt pl bl2 nx g ∨ w.heap.size ≤ g := fun g h => by
                  rcases h with h | h
                  · exact .inr (.inr (hv' g h))
                  · exact .inl (hownb g (.inr h))
                have hpn := hr.fresh nx hn2
                have hst : Step pl bl2 w (upd (upd pl b2 (.row (a.eval y) svs2)) nx (.row v' svs2)) (upd (upd bl2 b2 .dead) nx (.mat t2 et2 e 0 0 none new)) w' := by
                  refine Step.two hr hbn hgr' (fun g h => by cases h) (fun g h => by cases h) (fun g _ h => hhas g h) (fun g h => by rw [hp] at h; cases h) (fun g h => by rw [hpn] at h; cases h) (fun sv0 svs0 h => ?_) (fun sv0 svs0 h => by rw [hpn] at h; cases h)
                  rw [hp] at h
                  injection h with h
                  injection h with h h2
                  subst h h2
                  exact ⟨_, _, rfl, KeepR.ofDead⟩
                have hext := hst.ext (ok0 := ok0) (base := base)
                refine wp_of_value (run_builtin_append ho hc ha hty (by rw [hv]; exact hrun)) (hK v' (upd (upd pl b2 (.row (a.eval y) svs2)) nx (.row v' svs2)) w' ?_ hst ?_)
                · refine RelB.two hr hbn hgr' (fun g h => by cases h) (fun g h => by cases h) (fun g _ h => hhas g h) (fun g h => by cases h) hst trivial ?_
                  have hwn : w'.ownsRow base t2 1 v' (([] : List (List e.den)) ++ new).length ([] ++ vs2) := by simpa using ownsRow_base hown hr.baseLe
                  have := MatOk.app (E := envOf ok0 base pl bl2 w) (E' := envOf ok0 base (upd (upd pl b2 (.row (a.eval y) svs2)) nx (.row v' svs2)) (upd (upd bl2 b2 .dead) nx (.mat t2 et2 e 0 0 none new)) w') rfl (MatOk.nil _ t2 et2 e) hM (v' := v') (vs1 := []) (vs2 := vs2)
                    hwn rfl (fun i s h => by simp at h) ho2 (fun x u hu => hu.mono hext.heap) (fun g h => ?_) (fun i j s r g h => by simp at h)
                  · exact (show MatOk _ t2 et2 e none new v' svs2 by simpa using this)
                  · rcases h with ⟨i, s, h1, _⟩ | ⟨i, s, h1, h2⟩
                    · simp at h1
                    · have hlt := hltb g (.inr ⟨i, s, h1, h2⟩)
                      exact ⟨hgr'.block g hlt (by simp), fun h3 => by have := hv' g h3; omega⟩
                · refine ⟨?_, v', svs2, by simp [envOf, upd], fun t1 et1 e1 ver1 iver1 hole1 l1 h1 => ?_⟩
                  · rcases hown.2 with ⟨rfl, _⟩ | ⟨g, cap, cur, rfl, _⟩ <;> rfl
                  · simp only [envOf, updL, upd, if_true, Option.some.injEq] at h1
                    injection h1 with q1 q2 q3 q4
                    subst q4
                    exact ⟨Nat.le_refl _, fun _ => rfl⟩
              · cases hk
            · -- onto a slice of slices
              rename_i b ver hx
              split at hk
              · rename_i t0 et0 e0 ver' iver l hb
                cases hvt2 : (Nat.beq ver ver' && (Nat.beq t0 t2 && (Nat.beq et0 et2 && !Nat.beq b b2))) with
                | false => rw [hvt2] at hk; cases hk
                | true =>
                  obtain ⟨q1, q⟩ := andB hvt2
                  obtain ⟨q2, q⟩ := andB q
                  obtain ⟨q3, q4⟩ := andB q
                  have := Nat.eq_of_beq_eq_true q1
                  subst this
                  have := Nat.eq_of_beq_eq_true q2
                  subst this
                  have := Nat.eq_of_beq_eq_true q3
                  subst this
                  have hbb : b2 ≠ b := by
                    rintro rfl
                    rw [beq_self] at q4
                    cases q4
                  simp only [hvt2, cond_true] at hk
                  split at hk
                  · rename_i he
                    subst he
                    obtain ⟨hroom, hk⟩ := given_some hk
                    have hroom := of_decide_eq_true hroom
                    refine ⟨_, _, _, hk, fun bl2 hb2 => ?_⟩
                    intro ok0 base pl w a hr hxs K Q hK
                    obtain ⟨svs2, vs2, hb2', hp2, hM2, ho21, ho22, hone⟩ := hsrc bl2 (hb2 b2 (by simp)) ok0 base pl w a hr hxs
                    have hb' : bl2 b = some (.mat t0 et0 e0 ver iver none l) := (hb2 b (by simp)).trans hb
                    have hv := hxs x hx0
                    rw [hx] at hv
                    obtain ⟨_, sv, svs, hg, hcur⟩ := hv
                    have hav := (hcur _ _ _ _ _ _ _ hb').2 rfl
                    subst hav
                    obtain ⟨p, hp, hB⟩ := hr.blks b _ hb'
                    have : p = .row (a.eval x) svs := by have h2 : pl b = some (.row (a.eval x) svs) := hg; rw [hp] at h2; injection h2
                    subst this
                    have hM : MatOk _ t0 et0 e0 none l (a.eval x) svs := hB
                    obtain ⟨vs, ho1, ho2⟩ := hM.outer
                    have hvl : vs.length = l.length := by rw [ho1.1, Nat.mul_one]
                    obtain ⟨v', w', hrun, hown, hgr, hloc⟩ := run_append_raw (P := P) base fe f.under (ty := o.type) (by omega) hs3 (show w.ownsRow base t0 te.size (a.eval x) l.length vs by rw [← hs1]; exact ho1) (show w.ownsRow base t0 te.size (a.eval y) new.length vs2 by rw [← hs1]; exact ho21) hone hroom hr.baseLe
                    rw [← hs1] at hown
                    have hown1 : ∀ g, (Pl.row (a.eval x) svs).has g → OwnAt pl bl2 b g := fun g h => ⟨_, _, hb', rfl, hp, h⟩
                    have hown2 : ∀ g, (Pl.row (a.eval y) svs2).has g → OwnAt pl bl2 b2 g := fun g h => ⟨_, _, hb2', rfl, hp2, h⟩
                    have hlt1 : ∀ g, (Pl.row (a.eval x) svs).has g → g < w.heap.size := fun g h => Own.lt hr ⟨b, _, _, hb', rfl, hp, h⟩
                    have hlt2 : ∀ g, (Pl.row (a.eval y) svs2).has g → g < w.heap.size := fun g h => Own.lt hr ⟨b2, _, _, hb2', rfl, hp2, h⟩
                    have hsep : ∀ g, (Pl.row (a.eval y) svs2).has g → ¬ (Pl.row (a.eval x) svs).has g := fun g h h2 => hr.sep b2 b _ _ _ _ g hbb hb2' hb' rfl rfl hp2 hp h h2
                    have hog : ∀ g, (a.eval x).ownBlock = some g → OwnAt pl bl2 b2 g ∨ OwnAt pl bl2 b g := fun g h => .inr (hown1 g (.inl h))
                    have hhas : ∀ g, (Pl.row v' (svs ++ svs2)).has g → OwnAt pl bl2 b2 g ∨ OwnAt pl bl2 b g ∨ w.heap.size ≤ g := fun g h => by
                      rcases h with h | ⟨k, s, hks, h⟩
                      · rcases hloc with h2 | h2
                        · rw [h2] at h; exact .inr (.inl (hown1 g (.inl h)))
                        · rw [h2] at h
                          exact .inr (.inr (Nat.le_of_eq (Option.some.inj h)))
                      · rcases app_get hks with ⟨_, h4⟩ | ⟨_, h4⟩
                        · exact .inr (.inl (hown1 g (.inr ⟨k, s, h4, h⟩)))
                        · exact .inl (hown2 g (.inr ⟨_, s, h4, h⟩))
                    have hst : Step pl bl2 w (upd (upd pl b2 (.row (a.eval y) svs2)) b (.row v' (svs ++ svs2))) (upd (upd bl2 b2 .dead) b (.mat t0 et0 e0 (ver + 1) (iver + 1) none (l ++ new))) w' := by
                      refine Step.two hr hbb hgr hog (fun g h => by cases h) (fun g _ h => hhas g h) (fun g h => by rw [hp2] at h; cases h) (fun g h => by rw [hp] at h; cases h) (fun sv0 svs0 h => ?_) (fun sv0 svs0 h => ?_)
                      · rw [hp2] at h
                        injection h with h
                        injection h with h h2
                        subst h h2
                        exact ⟨_, _, rfl, KeepR.ofDead⟩
                      · rw [hp] at h
                        injection h with h
                        injection h with h h2
                        subst h h2
                        refine ⟨_, _, rfl, ?_⟩
                        rw [hb']
                        exact KeepR.ofMat ⟨by omega, fun h => by omega⟩ ⟨by omega, fun h => by omega⟩
                    have hext := hst.ext (ok0 := ok0) (base := base)
                    refine wp_of_value (run_builtin_append ho hc ha hty hrun) (hK v' (upd (upd pl b2 (.row (a.eval y) svs2)) b (.row v' (svs ++ svs2))) w' ?_ hst ?_)
                    · refine RelB.two hr hbb hgr hog (fun g h => by cases h) (fun g _ h => hhas g h) (fun g h => by cases h) hst trivial ?_
                      refine MatOk.app (E := envOf ok0 base pl bl2 w) (E' := envOf ok0 base (upd (upd pl b2 (.row (a.eval y) svs2)) b (.row v' (svs ++ svs2))) (upd (upd bl2 b2 .dead) b (.mat t0 et0 e0 (ver + 1) (iver + 1) none (l ++ new))) w') rfl hM hM2 (vs1 := vs) (vs2 := vs2) (by rw [List.length_append]; exact hown) hvl ho2 ho22 (fun x u hu => hu.mono hext.heap) (fun g h => ?_) (fun i j s r g h1 h2 h3 h4 => hsep g (.inr ⟨j, r, h2, h4⟩) (.inr ⟨i, s, h1, h3⟩))
                      have hne : (a.eval x).ownBlock ≠ some g ∧ g < w.heap.size := by
                        rcases h with ⟨i, s, h1, h2⟩ | ⟨i, s, h1, h2⟩
                        · exact ⟨fun h3 => hM.sep0 i s g h1 h3 h2, hlt1 g (.inr ⟨i, s, h1, h2⟩)⟩
                        · exact ⟨fun h3 => hsep g (.inr ⟨i, s, h1, h2⟩) (.inl h3), hlt2 g (.inr ⟨i, s, h1, h2⟩)⟩
                      refine ⟨hgr.block g hne.2 (fun h3 => hne.1 h3.symm), fun h3 => ?_⟩
                      rcases hloc with h4 | h4
                      · rw [h4] at h3; exact hne.1 h3
                      · rw [h4] at h3
                        have := Option.some.inj h3
                        omega
                    · refine ⟨?_, v', svs ++ svs2, by simp [envOf, upd], fun t1 et1 e1 ver1 iver1 hole1 l1 h1 => ?_⟩
                      · rcases hown.2 with ⟨rfl, _⟩ | ⟨g, cap, cur, rfl, _⟩ <;> rfl
                      · simp only [envOf, updL, upd, if_true, Option.some.injEq] at h1
                        injection h1 with q1 q2 q3 q4
                        subst q4
                        exact ⟨Nat.le_refl _, fun _ => rfl⟩
                  · cases hk
              · cases hk
            · cases hk
        · cases hk
      · cases hk
  · cases hk

/-! ### copy -/
theorem rawCells {w : World} {base : Nat} {t0 : TypeId} {size : Nat} {sv : Value} {m : Nat} {xs : List Value} (hown : w.ownsRow base t0 size sv m xs)
    {g o n c : Nat} (hsv : sv = .slice (some ⟨g, 0, none⟩) n c) {us : List Value} (h1 : ∀ u ∈ us, u.oneCell' = true) (hle : o + us.length ≤ xs.length) :
    ∃ w', (storeCells ⟨g, o, none⟩ us).run P w = .ok () w' ∧ w.grownBy w' (some g) ∧ w'.ownsRow base t0 size sv m (xs.take o ++ us ++ xs.drop (o + us.length)) := by
  obtain ⟨hxl, hown2⟩ := hown
  rcases hown2 with ⟨h0, _⟩ | ⟨g', cap, cur, hsv', hbase, hh, hnc, hcm, hcs', htake⟩
  · rw [hsv] at h0; cases h0
  have hh : w.heap[g']? = some (.cells cur t0 (0, 0)) := hh
  have hgg : g' = g := by
    rw [hsv] at hsv'
    injection hsv' with e1 e2 e3
    injection e1 with e1
    injection e1 with e1
    exact e1.symm
  subst hgg
  have hcur : cur.toList = xs ++ cur.toList.drop (m * size) := by
    rw [← htake, List.take_append_drop]
  have hle2 : o + us.length ≤ cur.toList.length := by
    rw [hcur]
    simp only [List.length_append]
    omega
  have hst := run_storeCells_at P g' o t0 us 0 cur w hh (by simpa using hle2) h1
  simp only [Nat.add_zero] at hst
  have hnew : cur.toList.take o ++ us ++ cur.toList.drop (o + us.length) = xs.take o ++ us ++ xs.drop (o + us.length) ++ cur.toList.drop (m * size) := by
    have e1 : cur.toList.take o = xs.take o := by
      rw [hcur, List.take_append_of_le_length (by omega)]
    have e2 : cur.toList.drop (o + us.length) = xs.drop (o + us.length) ++ cur.toList.drop (m * size) := by
      conv => lhs; rw [hcur]
      rw [List.drop_append_of_le_length hle]
    rw [e1, e2]
    simp only [List.append_assoc]
  have hnl : (xs.take o ++ us ++ xs.drop (o + us.length)).length = xs.length := by
    simp only [List.length_append, List.length_take, List.length_drop]
    omega
  refine ⟨_, hst, setRow_grownBy w g' _, by rw [hnl]; exact hxl, .inr ⟨g', cap, _, hsv', hbase, setRow_heap w g' _ _ t0 _ hh, hnc, hcm, ?_, ?_⟩⟩
  · have hcs2 : cur.size = cap * size := hcs'
    have : (cur.toList.take o ++ us ++ cur.toList.drop (o + us.length)).length = cur.toList.length := by
      simp only [List.length_append, List.length_take, List.length_drop]
      omega
    rw [List.size_toArray, this, Array.length_toList]
    exact hcs2
  · simp only [hnew]
    rw [List.take_append_of_le_length (by rw [hnl, hxl]; exact Nat.le_refl _), List.take_of_length_le (by rw [hnl, hxl]; exact Nat.le_refl _)]

/-- The first cells of what is copied. -/
theorem run_firstCells {w : World} {okI : Nat → Prop} {e : Ty} {new : List e.den} {src : Value} (hsrc : Reads w okI e new src) (n : Nat) : ∃ ys, DList (fun x u => DRep w okI e x u) (new.take n) ys ∧ ys.length = Nat.min new.length n * e.size ∧
    (Builtin.lenOf src).run P w = .ok new.length w ∧ (Builtin.firstCells e.size (Nat.min new.length n) src).run P w = .ok ys.toArray w := by
  obtain ⟨A, c, ys, rfl, hle, hcm, hd, hcell⟩ := hsrc
  have hyl := hd.length
  have hd2 := hd.take n
  have hl2 := hd2.length
  have hmin : (new.take n).length = Nat.min new.length n := by rw [List.length_take, Nat.min_comm]
  rw [hmin] at hl2
  have heq : ys.take (n * e.size) = ys.take (Nat.min new.length n * e.size) := by
    rcases Nat.le_total new.length n with h | h
    · have : Nat.min new.length n = new.length := Nat.min_eq_left h
      rw [this, ← hyl, List.take_of_length_le (Nat.le_refl _), List.take_of_length_le]
      rw [hyl]
      exact Nat.mul_le_mul_right _ h
    · have : Nat.min new.length n = n := Nat.min_eq_right h
      rw [this]
  refine ⟨ys.take (n * e.size), hd2, hl2, by simp [Builtin.lenOf], ?_⟩
  cases A with
  | none =>
    have hy : ys = [] := by
      cases ys with
      | nil => rfl
      | cons y ys => obtain ⟨ad, ha, _⟩ := hcell 0 y rfl; cases ha
    subst hy
    simp [Builtin.firstCells]
  | some ad =>
    have h := run_loadCells_list (P := P) w ad (ys.take (n * e.size)) (fun j u hj => by
      rw [List.getElem?_take] at hj
      split at hj
      · obtain ⟨ad', ha, hc⟩ := hcell j u hj
        injection ha with ha
        subst ha
        exact hc
      · cases hj)
    rw [hl2] at h
    simpa [Builtin.firstCells] using h

theorem run_builtin_copy {w w' : World} {a : Act} {x y : Operand} {c : Call} {t : TypeId} (ho : o.op = .call c) (hc : c.callee = .builtin .copy) (ha : c.args.toList = [x, y]) (ht : c.argTypes.toList = [t, t]) {v : Value}
    (h : (Builtin.copy_ #[t, t] o.type #[a.eval x, a.eval y]).run P w = .ok v w') : (execOp a.eval o).run P w = .ok (.value v) w' := by
  have h1 : c.args = #[x, y] := by rw [← Array.toArray_toList (xs := c.args), ha]
  have h2 : c.argTypes = #[t, t] := by rw [← Array.toArray_toList (xs := c.argTypes), ht]
  simp [execOp, ho, resolve, hc, h1, h2, invoke, builtin, h]

/-- copy onto 'd' elements of a row from the i-th on. -/
theorem copy_row {te : TI} {t et : TypeId} {inf : TypeInfo} {d' : TypeDesc} {z : Value} (fe : TFacts P et te inf d' z) (hu : P.underlying t = some (.slice et)) {e : Ty} (hes : e.size = te.size) {E : Env} {base : Nat} {t0 : TypeId} {l new : List e.den} {sv : Value} {xs : List Value} (hd : DList (fun x u => DRep E.w E.ok e x u) l xs) (hown : E.w.ownsRow base t0 e.size sv l.length xs)
    {src : Value} (hsrc : Reads E.w E.ok e new src) {i d : Nat} (hid : i + d ≤ l.length) {A : Option Addr} {cd : Nat} (hA : 0 < d → ∃ g n c, sv = .slice (some ⟨g, 0, none⟩) n c ∧ A = some ⟨g, i * e.size, none⟩) (ty : TypeId) :
    ∃ w' xs', (Builtin.copy_ #[t, t] ty #[.slice A d cd, src]).run P E.w = .ok (.int .i64 ((Nat.min new.length d : Nat) : Int)) w' ∧ E.w.grownBy w' sv.ownBlock ∧ DList (fun x u => DRep E.w E.ok e x u) (l.take i ++ (new.take d ++ l.drop (i + Nat.min new.length d))) xs' ∧
      w'.ownsRow base t0 e.size sv l.length xs' := by
  obtain ⟨ys, hdy, hyl, hlen, hfc⟩ := run_firstCells (P := P) hsrc d
  have hxl := hd.length
  have hone := hdy.oneCell
  have hn : Nat.min new.length d ≤ d := Nat.min_le_right _ _
  have hd2 : DList (fun x u => DRep E.w E.ok e x u) (l.take i ++ (new.take d ++ l.drop (i + Nat.min new.length d))) (xs.take (i * e.size) ++ (ys ++ xs.drop ((i + Nat.min new.length d) * e.size))) := (hd.take i).append (hdy.append (hd.drop _))
  have hsz : (sizeOf et).run P E.w = .ok e.size E.w := by rw [hes]; exact run_sizeOf fe E.w
  rcases Nat.eq_zero_or_pos d with h0 | h0
  · subst h0
    have hm : Nat.min new.length 0 = 0 := Nat.min_eq_right (Nat.zero_le _)
    rw [hm] at hyl hfc
    have hy : ys = [] := List.eq_nil_of_length_eq_zero (by simpa using hyl)
    subst hy
    refine ⟨E.w, xs, ?_, ⟨rfl, rfl, rfl, Nat.le_refl _, fun _ _ _ => rfl⟩, ?_, hown⟩
    · cases A with
      | none => simp [Builtin.copy_, run_underlying hu, hlen, hm, hsz, hfc, goInt]
      | some ad => simp [Builtin.copy_, run_underlying hu, hlen, hm, hsz, hfc, goInt, storeCells]
    · have h3 : l.take i ++ (new.take 0 ++ l.drop (i + Nat.min new.length 0)) = l := by rw [hm]; simp
      rw [h3]
      exact hd
  · obtain ⟨g, n, c, hsv, rfl⟩ := hA h0
    have hle : i * e.size + ys.length ≤ xs.length := by
      rw [hyl, hxl, ← Nat.add_mul]
      exact Nat.mul_le_mul_right _ (by omega)
    obtain ⟨w', hst, hg, hown'⟩ := rawCells (P := P) hown (o := i * e.size) hsv hone hle
    refine ⟨w', _, ?_, by rw [hsv]; exact hg, hd2, ?_⟩
    · simp [Builtin.copy_, run_underlying hu, hlen, hsz, hfc, goInt, hst]
    · have : xs.take (i * e.size) ++ (ys ++ xs.drop ((i + Nat.min new.length d) * e.size)) = xs.take (i * e.size) ++ ys ++ xs.drop (i * e.size + ys.length) := by
        rw [hyl, ← Nat.add_mul, List.append_assoc]
      rw [this]
      exact hown'

theorem sound_copy {T : TypeId → Option TI} (hT : TOk P T) {kk : K β} {c : Call} (ho : o.op = .call c) (hc : c.callee = .builtin .copy) {x y : Operand} {t : TypeId} (ha : c.args.toList = [x, y]) (hty : c.argTypes.toList = [t, t])
    (hk : copyRun T bl t (ρ x) (ρ y) kk = some r) : Sound P o ρ bl kk r := by
  have hargs : c.args = #[x, y] := by rw [← Array.toArray_toList (xs := c.args), ha]
  have hx0 : x ∈ o.op.operands := by simp [ho, Op.operands, Call.operands, hargs]
  have hy0 : y ∈ o.op.operands := by simp [ho, Op.operands, Call.operands, hargs]
  unfold copyRun at hk
  split at hk
  · cases hk
  rename_i ti ht
  obtain ⟨i, d, z, f⟩ := hT.facts ht
  split at hk
  · rename_i et hel hal
    have hd := slice_type f hel hal
    subst hd
    split at hk
    · cases hk
    rename_i te hte
    obtain ⟨i', d', z', fe⟩ := hT.facts hte
    split at hk
    · cases hk
    rename_i e hety
    cases hs : (Nat.beq e.size te.size && Nat.blt 0 te.size) with
    | false => rw [hs] at hk; cases hk
    | true =>
      obtain ⟨hs1, hs2⟩ := andB hs
      have hs1 := Nat.eq_of_beq_eq_true hs1
      simp only [hs, cond_true] at hk
      split at hk
      · cases hk
      rename_i new rd hsrc
      split at hk
      · -- onto a part
        rename_i b ver lo hi hx
        split at hk
        · rename_i t0 e0 ver' l hb
          cases hver : Nat.beq ver ver' with
          | false => rw [hver] at hk; cases hk
          | true =>
            have := Nat.eq_of_beq_eq_true hver
            subst this
            simp only [hver, cond_true] at hk
            split at hk
            · rename_i he
              subst he
              refine ⟨_, _, _, hk, fun bl2 hb2 => ?_⟩
              have hb' : bl2 b = some (.row t0 e0 ver l) := (hb2 b (by simp)).trans hb
              intro ok0 base pl w a hr hxs K Q hK
              have hv := hxs x hx0
              rw [hx] at hv
              obtain ⟨_, sv, svs, hg, hcur⟩ := hv
              obtain ⟨q1, q2, A, A', n, cc, hsv, hav, hA, _⟩ := (hcur t0 e0 ver l hb').2 rfl
              obtain ⟨p, hp, hB⟩ := hr.blks b _ hb'
              have : p = .row sv svs := by have h2 : pl b = some (.row sv svs) := hg; rw [hp] at h2; injection h2
              subst this
              obtain ⟨h0, xs, hd', hown⟩ := hB
              subst h0
              have hrd : Reads w (envOf ok0 base pl bl2 w).ok e0 new (a.eval y) := srcOf_rep hr.blksOk hsrc (fun b hb B hB => (hb2 b (by simp [hb])).trans hB) (hxs y hy0)
              obtain ⟨w', xs', hrun, hgr, hd2, hown2⟩ := copy_row fe f.under hs1 (E := envOf ok0 base pl bl2 w) hd' hown hrd (i := lo) (d := hi - lo) (by omega) (A := A') (cd := cc - lo) (fun hpos => by
                have hA := hA (by omega)
                rcases hown.2 with ⟨hsv2, hn⟩ | ⟨g, cap, cur, hsv2, _⟩
                · omega
                · rw [hsv] at hsv2
                  injection hsv2 with e1 _ _
                  subst e1
                  refine ⟨g, n, cc, hsv, ?_⟩
                  rw [hA]
                  simp [Addr.add_lit]) o.type
              have hver : ver ≤ ver ∧ (ver = ver → sv = sv ∧ (l.take lo ++ (new.take (hi - lo) ++ l.drop (lo + Nat.min new.length (hi - lo)))).length = l.length) := ⟨Nat.le_refl _, fun _ => ⟨rfl, by
                have h1 : Nat.min new.length (hi - lo) = min (hi - lo) new.length := Nat.min_comm _ _
                simp only [List.length_append, List.length_take, List.length_drop, h1]
                omega⟩⟩
              have hst := Step.grown hr hb' hp hgr (.inl rfl) hver
              have hext := hst.ext (ok0 := ok0) (base := base)
              refine wp_of_value (run_builtin_copy ho hc ha hty (by rw [hav]; exact hrun)) (hK _ (upd pl b (.row sv [])) w' ?_ hst rfl)
              exact RelB.grown hr hb' hp hgr (.inl rfl) hver ⟨rfl, xs', hd2.mono fun x u hu => hu.mono hext.heap, by rw [(hver.2 rfl).2]; exact hown2⟩
            · cases hk
        · cases hk
      · -- onto a whole row
        rename_i b ver hx
        split at hk
        · rename_i t0 e0 ver' l hb
          cases hver : Nat.beq ver ver' with
          | false => rw [hver] at hk; cases hk
          | true =>
            have := Nat.eq_of_beq_eq_true hver
            subst this
            simp only [hver, cond_true] at hk
            split at hk
            · rename_i he
              subst he
              refine ⟨_, _, _, hk, fun bl2 hb2 => ?_⟩
              have hb' : bl2 b = some (.row t0 e0 ver l) := (hb2 b (by simp)).trans hb
              intro ok0 base pl w a hr hxs K Q hK
              have hv := hxs x hx0
              rw [hx] at hv
              obtain ⟨_, sv, svs, hg, hcur⟩ := hv
              have hav := (hcur t0 e0 ver l hb').2 rfl
              obtain ⟨p, hp, hB⟩ := hr.blks b _ hb'
              have : p = .row sv svs := by have h2 : pl b = some (.row sv svs) := hg; rw [hp] at h2; injection h2
              subst this
              obtain ⟨h0, xs, hd', hown⟩ := hB
              subst h0
              have hrd : Reads w (envOf ok0 base pl bl2 w).ok e0 new (a.eval y) := srcOf_rep hr.blksOk hsrc (fun b hb B hB => (hb2 b (by simp [hb])).trans hB) (hxs y hy0)
              obtain ⟨A, cc, hsv, hA⟩ : ∃ A cc, sv = .slice A l.length cc ∧ (0 < l.length → ∃ g n c, sv = .slice (some ⟨g, 0, none⟩) n c ∧ A = some ⟨g, 0 * e0.size, none⟩) := by
                rcases hown.2 with ⟨hsv2, hn⟩ | ⟨g, cap, cur, hsv2, _⟩
                · exact ⟨none, 0, by rw [hsv2, hn], fun h => by omega⟩
                · exact ⟨_, cap, hsv2, fun _ => ⟨g, _, _, hsv2, by simp⟩⟩
              obtain ⟨w', xs', hrun, hgr, hd2, hown2⟩ := copy_row fe f.under hs1 (E := envOf ok0 base pl bl2 w) hd' hown hrd (i := 0) (d := l.length) (by omega) (A := A) (cd := cc) hA o.type
              simp only [List.take_zero, List.nil_append, Nat.zero_add] at hd2
              have hver : ver ≤ ver ∧ (ver = ver → sv = sv ∧ (new.take l.length ++ l.drop (Nat.min new.length l.length)).length = l.length) := ⟨Nat.le_refl _, fun _ => ⟨rfl, by
                have h1 : Nat.min new.length l.length = min l.length new.length := Nat.min_comm _ _
                simp only [List.length_append, List.length_take, List.length_drop, h1]
                omega⟩⟩
              have hst := Step.grown hr hb' hp hgr (.inl rfl) hver
              have hext := hst.ext (ok0 := ok0) (base := base)
              refine wp_of_value (run_builtin_copy ho hc ha hty (by rw [hav, hsv]; exact hrun)) (hK _ (upd pl b (.row sv [])) w' ?_ hst rfl)
              exact RelB.grown hr hb' hp hgr (.inl rfl) hver ⟨rfl, xs', hd2.mono fun x u hu => hu.mono hext.heap, by rw [(hver.2 rfl).2]; exact hown2⟩
            · cases hk
        · cases hk
      · cases hk
  · cases hk

/-! ### Bytes as a string -/
theorem DList_ints {w : World} {ok : Nat → Prop} {k : IntKind} : ∀ {l : List Int} {ys : List Value}, DList (fun (x : (Ty.int k).den) u => DRep w ok (.int k) x u) l ys → ys = l.map (Value.int k)
  | [], _, h => by simp only [DList] at h; subst h; rfl
  | n :: l, _, ⟨u, v, e1, hr, ht⟩ => by
    have hu : u = [.int k n] := hr
    subst e1 hu
    rw [DList_ints ht]
    rfl

theorem sound_bytes {T : TypeId → Option TI} (hT : TOk P T) {kk : K β} {s t : TypeId} {x : Operand} (ho : o.op = .convert s t x) {si ti : TI} (hs : T s = some si) (ht : T t = some ti) (hk : bytesRun T bl si ti (ρ x) kk = some r) : Sound P o ρ bl kk r := by
  obtain ⟨i, d, z, f⟩ := hT.facts ht
  obtain ⟨i', d', z', f'⟩ := hT.facts hs
  unfold bytesRun at hk
  split at hk
  · rename_i et hel hal
    have hd := slice_type f' hel hal
    subst hd
    split at hk
    · cases hk
    rename_i te hte
    obtain ⟨i2, d2, z2, fe⟩ := hT.facts hte
    split at hk
    · rename_i hkd
      have he : d2 = .int .u8 := by
        rw [fe.kind] at hkd
        cases d2 <;> simp_all [kindD]
      subst he
      cases hstr : ti.isStr with
      | false => rw [hstr] at hk; cases hk
      | true =>
        have hd := str_type f hstr
        subst hd
        simp only [hstr, cond_true] at hk
        split at hk
        · rename_i l rd hsrc
          refine Sound.pure hk fun bl2 hb2 ok0 base pl w a hr hxs => ⟨.string ⟨(strOf l).toArray⟩, ?_, rfl⟩
          have hrd : Reads w (envOf ok0 base pl bl2 w).ok (.int .u8) l (a.eval x) := srcOf_rep hr.blksOk hsrc (fun b hb B hB => (hb2 b (by simpa using hb)).trans hB) (hxs x (by simp [ho, Op.operands]))
          obtain ⟨A, c, ys, hv, _, _, hdl, hcell⟩ := hrd
          have hys := DList_ints hdl
          subst hys
          have hconv : (convert s t (a.eval x)).run P w = .ok (.string ⟨(strOf l).toArray⟩) w := by
            rw [hv, run_convert_bytes_string w s t et A _ c f'.under fe.under f.under]
            cases A with
            | none =>
              have : l = [] := by
                cases l with
                | nil => rfl
                | cons n l => obtain ⟨ad, h, _⟩ := hcell 0 _ rfl; cases h
              subst this
              rfl
            | some ad =>
              have hload : (loadCells ad l.length).run P w = .ok (l.map (Value.int .u8)).toArray w := by
                have := run_loadCells_list (P := P) w ad (l.map (Value.int .u8)) (fun j v hj => by
                  obtain ⟨ad', h, h2⟩ := hcell j v hj
                  injection h with h
                  subst h
                  exact h2)
                simpa using this
              rw [run_bytesToString w ad l.length c l hload, foldl_push_bytes]
              congr 2
              simp [strOf, ByteArray.empty, ByteArray.emptyWithCapacity]
              rfl
          simp [execOp, ho, hconv]
        · cases hk
    · cases hk
  · cases hk
end
end Go.Lift
