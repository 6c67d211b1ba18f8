/- Part5: LiftY, LiftAb, LiftAc, LiftUc, LiftUa. -/
import Derived.KernelRfl
import Derived.Test.YtdcedhfkcehcmaaGreatDoorPart4
set_option linter.unusedVariables false
set_option linter.unusedSectionVars false
set_option linter.unusedSimpArgs false
namespace Go.Lift
open Go.RowKit
@[reducible] def Qn2 (e : Ty) (bytes : Nat) {β : Type} (l : List e.den) (k : List e.den → Option β) : Option β :=
 cond (decide (l.length * bytes ≤ Qa)) (k l) none
end Go.Lift
namespace Go.Lift
noncomputable section
set_option linter.unusedVariables false
def Q27 : List C → List Nat
 | [] => []
 | .ptr b _ :: r => b :: Q27 r
 | .row b _ :: r => b :: Q27 r
 | .fn _ caps :: r => caps ++ Q27 r
 | .mapv b :: r => b :: Q27 r
 | .mat b _ :: r => b :: Q27 r
 | .mrow b _ _ :: r => b :: Q27 r
 | .sub b _ _ _ :: r => b :: Q27 r
 | .bself b :: r => b :: Q27 r
 | .bfn _ b :: r => b :: Q27 r
 | .trow b _ _ :: r => b :: Q27 r
 | .tptr b _ _ _ _ :: r => b :: Q27 r
 | _ :: r => Q27 r
def Qmb : V → List Nat
 | .c x => Q27 [x]
 | .agg cs => Q27 cs
 | .eptr b _ _ _ => [b]
 | .mcell b _ _ => [b]
 | .mptr b _ _ _ _ => [b]
 | .arr b _ _ _ => [b]
 | _ => []
def Q2b : List V → List Nat
 | [] => []
 | v :: r => Qmb v ++ Q2b r
def Q2s (bl : Nat → Option Blk) : Nat → List Nat → List Nat → List Nat
 | 0, _, acc => acc
 | _ + 1, [], acc => acc
 | n + 1, b :: r, acc =>
  bif memB b acc then Q2s bl n r acc else
   match bl b with
   | some (.cells _ cs) => Q2s bl n (Q27 cs ++ r) (acc ++ [b])
   | some _ => Q2s bl n r (acc ++ [b])
   | none => Q2s bl n r acc
def Q45 (bl : Nat → Option Blk) : List Nat → List (Nat × Blk)
 | [] => []
 | b :: r =>
  match bl b with
  | some B => (b, B) :: Q45 bl r
  | none => Q45 bl r
def Qa2 : List V → Option (List (Bool × List C))
 | [] => some []
 | .c x :: r =>
  match Qa2 r with
  | some ts => some ((false, [x]) :: ts)
  | none => none
 | .agg cs :: r =>
  match Qa2 r with
  | some ts => some ((true, cs) :: ts)
  | none => none
 | _ :: _ => none
def tupV : List V → Option V
 | [v] => some v
 | vs =>
  match Qa2 vs with
  | some ts => some (.tup ts)
  | none => none
def inlK {β : Type} (T : TypeId → Option TI) (rs : List RS) (ids new : List Nat) (kk : K β) : Kx β := fun e σ =>
 match e with
 | .exit _ => none
 | _ =>
  match Q3n T σ.tm σ.bl rs with
  | none => none
  | some vs =>
   match tupV vs with
   | none => none
   | some v => bif Q2t (wids σ.bl) && (Q57 (ids ++ new) (wids σ.bl) && Q57 (wids σ.bl) ids) then kk v (ids ++ new) σ.bl else none
def Qjh {β : Type} (X : Ctx) (n : Nat) (c : Code) (rs : List RS) (m : Nat) (bl : Nat → Option Blk) (nx : Nat) (args : List V) (kk : K β) : Option β :=
 bif Q5d bl (Q1 nx m) && Nat.ble args.length n then
  exec { X with A := some (Q2s bl 99 (Q2b args) [] ++ Q1 nx m) } n (fun _ => none) 1 c ⟨numV 0 args, Q45 bl (Q2s bl 99 (Q2b args) []), nx⟩ (inlK X.T rs (Q2s bl 99 (Q2b args) []) (Q1 nx m) kk)
 else none
@[reducible] def inl (X : Ctx) (n : Nat) (c : Code) (rs : List RS) (m : Nat) : AbsF := ⟨fun bl nx args kk => Qjh X n c rs m bl nx args kk⟩
theorem Q6i {ids : List Nat} : ∀ {l : List Nat}, Q57 ids l = true → ∀ b ∈ l, b ∈ ids
 | [], _, b, h => by simp at h
 | c :: r, h, b, hb => by
  obtain ⟨h1, h2⟩ := andB h
  rcases List.mem_cons.1 hb with rfl | hb
  ·exact Q1i.1 h1
  ·exact Q6i h2 b hb
theorem Qdv {ids : List Nat} : ∀ {l : List LogE}, Qhz ids l = true → ∀ e ∈ l, ∀ b ∈ e.rd, b ∈ ids
 | [], _, e, h => by simp at h
 | c :: r, h, e, he => by
  obtain ⟨h1, h2⟩ := andB h
  rcases List.mem_cons.1 he with rfl | he
  ·exact Q6i h1
  ·exact Qdv h2 e he
theorem Q66 {bl : Nat → Option Blk} : ∀ {l : List Nat} {i : Nat}, look (Q45 bl l) i = if i ∈ l then bl i else none
 | [], i => by simp [Q45, Qt, Qi]
 | b :: r, i => by
  simp only [Q45]
  cases hb : bl b with
  | none =>
   simp only
   rw [Q66]
   by_cases h : i = b
   ·subst h; simp [hb]
   ·simp [h]
  | some B =>
   simp only [Qt, Qi]
   by_cases h : i = b
   ·subst h; simp [hb]
   ·rw [Q2d h, cond_false, Q66]; simp [h]
theorem Qdw : ∀ {l : List (Nat × Blk)} {i : Nat}, i ∉ wids l → look l i = none
 | [], _, _ => rfl
 | (j, x) :: r, i, h => by
  simp only [wids, List.mem_cons, not_or] at h
  rw [Qi, Q2d h.1, cond_false, Qdw h.2]
theorem Qdx : ∀ {l : List (Nat × Blk)} {f : Nat → Option Blk} {i : Nat}, (wids l).Nodup → updL f l i = if i ∈ wids l then look l i else f i
 | [], _, _, _ => by simp [wids, updL]
 | (j, x) :: r, f, i, h => by
  obtain ⟨h1, h2⟩ := List.nodup_cons.1 (show (j :: wids r).Nodup from h)
  simp only [updL]
  rw [Qdx h2]
  by_cases hi : i = j
  ·subst hi
   simp [h1, wids, Qt, Qi, upd]
  ·simp only [wids, List.mem_cons, hi, false_or, Qt, Qi, Q2d hi, cond_false, upd, if_false]
theorem Qdy {E : Env} : ∀ {vs : List V} {us : List Value} {ts : List (Bool × List C)}, VReps E vs us → Qa2 vs = some ts → TReps E ts us
 | [], us, ts, h, ht => by simp only [Qa2, Option.some.injEq] at ht; subst ht; exact h
 | v :: vs, us, ts, ⟨u, us', e, h1, h2⟩, ht => by
  cases v <;> simp only [Qa2] at ht <;> first | (cases ht; done) | skip
  all_goals
   split at ht
   ·rename_i ts' hts
    simp only [Option.some.injEq] at ht
    subst ht
    refine ⟨u, us', e, ?_, Qdy h2 hts⟩
    first | exact ⟨[u], ⟨u, [], rfl, h1, rfl⟩, by simp⟩ | exact h1
   ·cases ht
theorem Qkg {E : Env} {vs : List V} {us : List Value} {v : V} (h : VReps E vs us) (ht : tupV vs = some v) : VRep E v (Q24 us) := by
 unfold tupV at ht
 split at ht
 ·simp only [Option.some.injEq] at ht
  subst ht
  obtain ⟨u, us', e, h1, h2⟩ := h
  have h2 : us' = [] := h2
  subst h2 e
  exact h1
 ·rename_i hne
  split at ht
  ·rename_i ts hts
   simp only [Option.some.injEq] at ht
   subst ht
   refine ⟨us, ?_, Qdy h hts⟩
   have hl := VReps.length h
   match us, hl with
   | [], _ => rfl
   | [u], hl =>
    exfalso
    match vs, hl, hne with
    | [v], _, hne => exact hne v rfl
   | u :: u2 :: us, _ => rfl
  ·cases ht
theorem Qmc {P : Program} (hmx : P.follows .mixedOrders = true) {X : Ctx} (hT : TOk P X.T) (hΓ : ΓOk P X.Γ) {f : FuncId} {fn : Func} {c : Code} {rs : List RS} (m : Nat)
  (hf : P.funcs[f]? = some fn) (hc : ((fn.name == "runtime.NumGoroutine"), fn.body, fn.results.toList) = (false, some c, rs.map RS.toVar)) : AbsOk P f (inl X fn.ntmps c rs m) := by
 simp only [Prod.mk.injEq] at hc
 obtain ⟨hname, hb, hres⟩ := hc
 refine ⟨⟨fn, hf, hname, by rw [hb]; rfl⟩, fun bl nx args kk r hk => ?_⟩
 simp only [Qjh] at hk
 generalize hids : Q2s bl 99 (Q2b args) [] = ids at hk
 generalize hnew : Q1 nx m = new at hk
 cases hfree : (Q5d bl new && Nat.ble args.length fn.ntmps) with
 | false => rw [hfree] at hk; cases hk
 | true =>
  rw [hfree, cond_true] at hk
  obtain ⟨hfree, hlen⟩ := andB hfree
  have hfree := Q5z hfree
  have hlen := Nat.le_of_ble_eq_true hlen
  obtain ⟨e', σ', hk, hw⟩ := Qah (R := Qm8) (fr := fun F : { F : Nat → Option Blk // ∀ b ∈ ids ++ new, F b = none } => frF (ids ++ new) F.1 F.2) hmx (X := { X with A := some (ids ++ new) })
   (fun log hl e he b hb i => Qdv hl e he b hb) hT hΓ (fun _ _ h => by cases h) hk
  have hk' : (e' = .normal ∨ e' = .ret) ∧ ∃ vs v, Q3n X.T σ'.tm σ'.bl rs = some vs ∧ tupV vs = some v ∧ (wids σ'.bl).Nodup ∧ (∀ b ∈ wids σ'.bl, b ∈ ids ++ new) ∧ (∀ b ∈ ids, b ∈ wids σ'.bl) ∧ kk v (ids ++ new) σ'.bl = some r := by
   have go : (match Q3n X.T σ'.tm σ'.bl rs with
     | none => none
     | some vs =>
      match tupV vs with
      | none => none
      | some v => bif Q2t (wids σ'.bl) && (Q57 (ids ++ new) (wids σ'.bl) && Q57 (wids σ'.bl) ids) then kk v (ids ++ new) σ'.bl else none) = some r →
     ∃ vs v, Q3n X.T σ'.tm σ'.bl rs = some vs ∧ tupV vs = some v ∧ (wids σ'.bl).Nodup ∧ (∀ b ∈ wids σ'.bl, b ∈ ids ++ new) ∧ (∀ b ∈ ids, b ∈ wids σ'.bl) ∧ kk v (ids ++ new) σ'.bl = some r := by
    intro h
    split at h
    ·cases h
    rename_i vs hvs
    split at h
    ·cases h
    rename_i v hv
    cases hcc : (Q2t (wids σ'.bl) && (Q57 (ids ++ new) (wids σ'.bl) && Q57 (wids σ'.bl) ids)) with
    | false => rw [hcc] at h; cases h
    | true =>
     rw [hcc, cond_true] at h
     obtain ⟨c1, c2⟩ := andB hcc
     obtain ⟨c2, c3⟩ := andB c2
     exact ⟨vs, v, hvs, hv, Q3m c1, Q6i c2, Q6i c3, h⟩
   cases e' with
   | normal => exact ⟨.inl rfl, go hk⟩
   | ret => exact ⟨.inr rfl, go hk⟩
   | exit id => cases hk
  obtain ⟨he', vs, v, hvs, hv, hnd, hsub, hsup, hk⟩ := hk'
  refine ⟨v, ids ++ new, σ'.bl, hk, fun bl2 hb2 ok0 base pl w us hr hus => ?_⟩
  let F : Nat → Option Blk := fun i => if i ∈ ids ++ new then none else bl2 i
  have hF : ∀ b ∈ ids ++ new, F b = none := fun b hb => if_pos hb
  have hov : ov F (look (Q45 bl ids)) = bl2 := by
   funext i
   simp only [ov, Q66]
   by_cases hi : i ∈ ids
   ·rw [if_pos hi]
    have h2 := hb2 i (List.mem_append_left _ hi)
    cases hbi : bl i with
    | some B => simp only; rw [h2, hbi]
    | none => simp only [F, if_pos (List.mem_append_left new hi)]; rw [h2, hbi]
   ·rw [if_neg hi]
    simp only [F]
    by_cases hn : i ∈ ids ++ new
    ·rw [if_pos hn]
     have hn' : i ∈ new := (List.mem_append.1 hn).resolve_left hi
     rw [hb2 i hn, hfree i hn']
    ·rw [if_neg hn]
  have hov' : ov F (look σ'.bl) = updL bl2 σ'.bl := by
   funext i
   rw [Qdx hnd]
   simp only [ov]
   by_cases hi : i ∈ wids σ'.bl
   ·rw [if_pos hi]
    have : ∀ {l : List (Nat × Blk)}, i ∈ wids l → ∃ B, look l i = some B := by
     intro l
     induction l with
     | nil => intro h; simp [wids] at h
     | cons p l ih =>
      intro h
      rw [show look (p :: l) i = bif Nat.beq i p.1 then some p.2 else look l i from Qi p.1 p.2 l i]
      by_cases hp : i = p.1
      ·rw [hp, Q37]; exact ⟨p.2, rfl⟩
      ·rw [Q2d hp, cond_false]
       exact ih (by simpa [wids, hp] using h)
    obtain ⟨B, hB⟩ := this hi
    rw [hB]
   ·rw [if_neg hi, Qdw hi]
    simp only [F]
    by_cases hn : i ∈ ids ++ new
    ·rw [if_pos hn]
     have hn' : i ∈ new := (List.mem_append.1 hn).resolve_left fun h => hi (hsup i h)
     rw [hb2 i hn, hfree i hn']
    ·rw [if_neg hn]
  have hlen' : us.length ≤ fn.ntmps := by rw [VReps.length hus]; exact hlen
  refine calls_of_wp hf hb ?_
  have hstart : Rel fn.ntmps ok0 base pl (look (numV 0 args)) (ov F (look (Q45 bl ids))) { tmps := us.toArray ++ Array.replicate (fn.ntmps - us.toArray.size) undef, defers := [] } w := by
   rw [hov]
   refine ⟨rfl, by simp; omega, fun t v ht => ?_, hr⟩
   obtain ⟨_, u, h1, h2⟩ := VReps.get hus ht
   simp only [Nat.sub_zero] at h1
   rw [Array.getD_eq_getD_getElem?, Array.getElem?_append_left (by simpa using (List.getElem?_eq_some_iff.1 h1).1), List.getElem?_toArray, h1]
   exact h2
  refine Q15 (hw ⟨F, hF⟩ ok0 base pl _ w hstart) fun e a' w' ⟨he, pl', hr', hs'⟩ => ?_
  simp only [hov, hov'] at hr' hs'
  obtain ⟨vals, hrun, hreps⟩ := Qak hT hres hvs (blw := updL bl2 σ'.bl) (fun b B h => by rw [← hov']; simp only [ov, h]) hr'
  have hpost : a'.defers = [] ∧ ∃ u, (results fn a'.tmps).run P w' = .ok u w' ∧ (∃ u' pl', Ending.returned u = .returned u' ∧ RelB ok0 base pl' (updL bl2 σ'.bl) w' ∧ Step pl bl2 w pl' (updL bl2 σ'.bl) w' ∧ VRep (Q0 ok0 base pl' (updL bl2 σ'.bl) w') v u') :=
   ⟨hr'.defers, _, hrun, Q24 vals, pl', rfl, hr'.rel, hs', Qkg hreps hv⟩
  rcases he' with e1 | e1 <;> rw [e1] at he <;> subst he <;> exact hpost
end
end Go.Lift
namespace Go.Lift
noncomputable section
set_option linter.unusedVariables false
def Q3v (R : List Nat) (bl : Nat → Option Blk) : Nat → Option Blk := fun i => bif memB i R then bl i else none
def Q6j : Option Blk → Nat × Nat
 | some (.row _ _ ver _) => (ver + 1, 0)
 | some (.tree _ _ ver iver _ _) => (ver + 1, iver)
 | _ => (0, 0)
def Ql5 (f : Nat → Nat × Nat) : C → C
 | .row b ver => .row b (ver + (f b).1)
 | .trow b ver p => .trow b (ver + tv (f b).1 (f b).2 p) p
 | .tptr b ver p i o => .tptr b (ver + tv (f b).1 (f b).2 p) p i o
 | c => c
def Qca (f : Nat → Nat × Nat) : List C → List C
 | [] => []
 | c :: r => Ql5 f c :: Qca f r
def Q5b (f : Nat → Nat × Nat) (n : Nat × Nat) : Blk → Blk
 | .cells t cs => .cells t (Qca f cs)
 | .row t e ver l => .row t e (ver + n.1) l
 | .tree t e ver iver h l => .tree t e (ver + n.1) (iver + n.2) h l
 | B => B
def Qig (f : Nat → Nat × Nat) : List (Bool × List C) → List (Bool × List C)
 | [] => []
 | t :: r => (t.1, Qca f t.2) :: Qig f r
def Q3p (f : Nat → Nat × Nat) : List Nat → List Blk → List Blk
 | i :: is, B :: bs => Q5b f (f i) B :: Q3p f is bs
 | _, _ => []
def Qep (bl : Nat → Option Blk) (R : List Nat) : List Nat → Bool
 | [] => true
 | i :: r => (memB i R || (bl i).isNone) && Qep bl R r
def BT.hand : List BT → Bool
 | [] => true
 | .mat _ _ _ :: _ => false
 | _ :: r => BT.hand r
def Ql6 (ps : List (Bool × List CT)) (is : List BT) (bl : Nat → Option Blk) (nx : Nat) (args : List V) : Option (List Nat × (ST.dens ps × BT.dens is)) :=
 match idsB bl nx is 0 (Q8o ps args) with
 | none => none
 | some ids =>
  match Q2f bl ids ps args with
  | none => none
  | some x =>
   match Qh bl ids is ids with
   | none => none
   | some y => bif Q2t ids && !meet (Qy ps args ++ Qm bl is ids) ids then some (ids, (x, y)) else none
def Qcb (R ids : List Nat) (bl : Nat → Option Blk) : Nat → Nat × Nat := fun b => bif memB b ids then Q6j (Q3v R bl b) else (0, 0)
def Qji {α : Type} : List α → Bool
 | [] => true
 | _ :: _ => false
def Qhm {β : Type} (ps rs : List (Bool × List CT)) (is : List BT) (run : ST.dens ps × BT.dens is → (ST.dens rs × BT.dens is → Option β) → Option β) (bl : Nat → Option Blk) (nx : Nat) (args : List V) (kk : K β) : Option β :=
 match Ql6 ps is (Q3v (Q2s bl 99 (Q2b args) []) bl) nx args with
 | none => none
 | some (ids, d) =>
  bif Qep bl (Q2s bl 99 (Q2b args) []) ids && ((ST.flat rs && BT.flat is) || Qji (Qy ps args ++ Qm (Q3v (Q2s bl 99 (Q2b args) []) bl) is ids)) then
   run d fun z => kk (resV (Qig (Qcb (Q2s bl 99 (Q2b args) []) ids bl) (mkS ids rs z.1))) (Q2s bl 99 (Q2b args) [] ++ ids)
    (ids.zip (Q3p (Qcb (Q2s bl 99 (Q2b args) []) ids bl) ids (mkB ids is z.2)))
  else none
@[reducible] def hand (S : Spec) (hs : S.outs = S.ins) : AbsF := ⟨fun {β} bl nx args kk => Qhm (β := β) S.params S.res S.ins (fun d k => S.run d (hs ▸ k)) bl nx args kk⟩
structure Bump (f : Nat → Nat × Nat) (E E' : Env) : Prop where
 w : E'.w = E.w
 ok : E'.ok = E.ok
 base : E'.base = E.base
 pl : E'.pl = E.pl
 row : ∀ b t e ver' l, E'.bl b = some (.row t e ver' l) → ∃ ver, E.bl b = some (.row t e ver l) ∧ ver' = ver + (f b).1
 tree : ∀ b t e ver' iver' h l, E'.bl b = some (.tree t e ver' iver' h l) → ∃ ver iver, E.bl b = some (.tree t e ver iver h l) ∧ ver' = ver + (f b).1 ∧ iver' = iver + (f b).2
 mat : ∀ b t et e ver iver h l, E'.bl b = some (.mat t et e ver iver h l) → E.bl b = some (.mat t et e ver iver h l)
theorem Qjj (a b n m : Nat) (p : Path) : tv (a + n) (b + m) p = tv a b p + tv n m p := by cases p <;> simp only [tv] <;> omega
section
variable {f : Nat → Nat × Nat} {E E' : Env}
theorem CRep.bump (hb : Bump f E E') : ∀ {c : C} {v : Value}, CRep E c v → CRep E' (Ql5 f c) v
 | .bool _, _, h => h
 | .int _ _, _, h => h
 | .str _, _, h => h
 | .err _, _, h => h
 | .list e l, v, h => by show DRep E'.w E'.ok _ _ _; rw [hb.w, hb.ok]; exact h
 | .nils, _, h => h
 | .nilc, _, h => h
 | .lsome e l, v, h => by show DRep E'.w E'.ok _ _ _ ∧ _; rw [hb.w, hb.ok]; exact h
 | .nilp, _, h => h
 | .ptr b o, v, h => by show ∃ g, E'.pl b = _ ∧ _; rw [hb.pl]; exact h
 | .row b ver, v, ⟨h1, sv, svs, h2, h3⟩ => ⟨h1, sv, svs, by rw [hb.pl]; exact h2, fun t e ver' l h => by
   obtain ⟨ver0, h4, h5⟩ := hb.row b t e ver' l h
   obtain ⟨h6, h7⟩ := h3 t e ver0 l h4
   exact ⟨by omega, fun h8 => h7 (by omega)⟩⟩
 | .fn g caps, v, h => by show ∃ gs : List Nat, caps.map E'.pl = _ ∧ _; rw [hb.pl]; exact h
 | .nilfn, _, h => h
 | .mapv b, v, h => by show ∃ g, E'.pl b = _ ∧ _; rw [hb.pl]; exact h
 | .mat b ver, v, ⟨h1, sv, svs, h2, h3⟩ => ⟨h1, sv, svs, by rw [hb.pl]; exact h2, fun t et e ver' iver h l hh => h3 t et e ver' iver h l (hb.mat b _ _ _ _ _ _ _ hh)⟩
 | .mrow b iver i, v, ⟨h1, sv, svs, h2, h3⟩ => ⟨h1, sv, svs, by rw [hb.pl]; exact h2, fun t et e ver' iver h l hh => h3 t et e ver' iver h l (hb.mat b _ _ _ _ _ _ _ hh)⟩
 | .sub b ver i j, v, ⟨h1, sv, svs, h2, h3⟩ => ⟨h1, sv, svs, by rw [hb.pl]; exact h2, fun t e ver' l h => by
   obtain ⟨ver0, h4, h5⟩ := hb.row b t e ver' l h
   obtain ⟨h6, h7⟩ := h3 t e ver0 l h4
   exact ⟨by omega, fun h8 => h7 (by omega)⟩⟩
 | .bself b, v, h => by show _ ∨ ∃ g, E'.pl b = _ ∧ _; rw [hb.pl]; exact h
 | .trow b ver p, v, ⟨h1, sv, svs, h2, h3⟩ => ⟨h1, sv, svs, by rw [hb.pl]; exact h2, fun t e ver' iver h l hh => by
   obtain ⟨ver0, iver0, h4, h5, h8⟩ := hb.tree b t e ver' iver h l hh
   obtain ⟨h6, h7⟩ := h3 t e ver0 iver0 h l h4
   rw [h5, h8, Qjj]
   exact ⟨by omega, fun h8 => h7 (by omega)⟩⟩
 | .bfn g b, v, h => by show ∃ g, E'.pl b = _ ∧ _; rw [hb.pl]; exact h
 | .tptr b ver p i o, v, ⟨sv, svs, ad, h2, hv, h3⟩ => ⟨sv, svs, ad, by rw [hb.pl]; exact h2, hv, fun t e ver' iver h l hh => by
   obtain ⟨ver0, iver0, h4, h5, h8⟩ := hb.tree b t e ver' iver h l hh
   obtain ⟨h6, h7⟩ := h3 t e ver0 iver0 h l h4
   rw [h5, h8, Qjj]
   exact ⟨by omega, fun h8 => h7 (by omega)⟩⟩
 | .junk, _, h => h
theorem CReps.bump (hb : Bump f E E') : ∀ {cs : List C} {vs : List Value}, CReps E cs vs → CReps E' (Qca f cs) vs
 | [], _, h => h
 | _ :: _, _, ⟨v, vs', e, h1, h2⟩ => ⟨v, vs', e, h1.bump hb, CReps.bump hb h2⟩
theorem TReps.bump (hb : Bump f E E') : ∀ {ts : List (Bool × List C)} {vs : List Value}, TReps E ts vs → TReps E' (Qig f ts) vs
 | [], _, h => h
 | _ :: _, _, ⟨v, vs', e, ⟨xs, h1, h2⟩, h3⟩ => ⟨v, vs', e, ⟨xs, h1.bump hb, h2⟩, TReps.bump hb h3⟩
theorem FRep.bump (hb : Bump f E E') : ∀ {l : List (List UInt8 × (FuncId × Nat))} {es : List MapEntry}, FRep E l es → FRep E' l es
 | [], _, h => h
 | _ :: _, _, ⟨e, r, g, h1, h2, h3, h4, h5⟩ => ⟨e, r, g, h1, h2, by rw [hb.pl]; exact h3, h4, FRep.bump hb h5⟩
theorem BRep.bump (hb : Bump f E E') (n : Nat × Nat) {B : Blk} {p : Pl} (h : BRep E B p) : BRep E' (Q5b f n B) p := by
 cases B with
 | dead => exact trivial
 | cells t cs =>
  cases p with
  | row _ _ => exact h.elim
  | cells g =>
   obtain ⟨vs, h1, h2⟩ := h
   exact ⟨vs, by rw [hb.w]; exact h1, h2.bump hb⟩
 | map t k v vg l =>
  cases p with
  | row _ _ => exact h.elim
  | cells g =>
   obtain ⟨es, clock, h1, h2⟩ := h
   exact ⟨es, clock, by rw [hb.w]; exact h1, by rw [hb.w, hb.ok]; exact h2⟩
 | fmap t l =>
  cases p with
  | row _ _ => exact h.elim
  | cells g =>
   obtain ⟨es, clock, h1, h2⟩ := h
   exact ⟨es, clock, by rw [hb.w]; exact h1, h2.bump hb⟩
 | row t e ver l =>
  cases p with
  | cells _ => exact h.elim
  | row sv svs =>
   obtain ⟨h0, xs, h1, h2⟩ := h
   exact ⟨h0, xs, by rw [hb.w, hb.ok]; exact h1, by rw [hb.w, hb.base]; exact h2⟩
 | mat t et e ver iver hole l =>
  cases p with
  | cells _ => exact h.elim
  | row sv svs =>
   have hM : MatOk E t et e hole l sv svs := h
   obtain ⟨vs, h1, h2⟩ := hM.outer
   refine ⟨⟨vs, by rw [hb.w, hb.base]; exact h1, h2⟩, hM.len, hM.hole, fun i s x hs hx => ?_, hM.sep0, hM.sep⟩
   obtain ⟨xs, h5, h6⟩ := hM.inner i s x hs hx
   exact ⟨xs, by rw [hb.w, hb.ok]; exact h5, by rw [hb.w, hb.base]; exact h6⟩
 | tree t e ver iver hole l =>
  cases p with
  | cells _ => exact h.elim
  | row sv svs =>
   have hT : TreeOk E t e hole l sv svs := h
   obtain ⟨hv, F, h1, h2, h3⟩ := hT.rep
   exact ⟨⟨hv, F, by rw [hb.w, hb.ok, hb.base]; exact h1, h2, h3⟩, hT.top⟩
end
theorem Q8h {f : Nat → Nat × Nat} : ∀ {ids : List Nat} {Bs : List Blk}, ids.length = Bs.length → (Q3p f ids Bs).length = Bs.length
 | [], [], _ => rfl
 | _ :: is, _ :: bs, h => by simp only [Q3p, List.length_cons]; rw [Q8h (by simpa using h)]
theorem Qcc {f : Nat → Nat × Nat} : ∀ {ids : List Nat} {Bs : List Blk} {j i : Nat}, ids[j]? = some i → (Q3p f ids Bs)[j]? = (Bs[j]?).map (Q5b f (f i))
 | [], _, j, i, h => by simp at h
 | _ :: _, [], j, i, _ => by simp [Q3p]
 | k :: is, B :: bs, 0, i, h => by simp only [List.getElem?_cons_zero, Option.some.injEq] at h; subst h; rfl
 | k :: is, B :: bs, j + 1, i, h => by simp only [Q3p, List.getElem?_cons_succ] at h ⊢; exact Qcc h
theorem Qcd {bl : Nat → Option Blk} {R : List Nat} : ∀ {ids : List Nat}, Qep bl R ids = true → ∀ i ∈ ids, i ∈ R ∨ bl i = none
 | [], _, i, h => by simp at h
 | j :: r, h, i, hi => by
  obtain ⟨h1, h2⟩ := andB h
  rcases List.mem_cons.1 hi with rfl | hi
  ·simp only [Bool.or_eq_true, Option.isNone_iff_eq_none] at h1
   exact h1.imp (fun h => Q1i.1 h) id
  ·exact Qcd h2 i hi
theorem Qdz {bl : Nat → Option Blk} {ids ids2 : List Nat} {f : Nat → Nat × Nat} : ∀ {is : List BT} {js : List Nat} {y y2 : BT.dens is}, BT.hand is = true → Qh bl ids is js = some y → ∀ (j i : Nat) (B B' : Blk), js[j]? = some i → bl i = some B → (mkB ids2 is y2)[j]? = some B' →
  ∀ sv svs sv' svs', KeepR (some B) (some (Q5b f (Q6j (some B)) B')) sv svs sv' svs'
 | [], js, y, y2, _, _, j, i, B, B', _, _, h => by simp [mkB] at h
 | t :: is, [], y, y2, _, h, j, i, B, B', hj, _, _ => by simp at hj
 | t :: is, k :: js, y, y2, hh, h, 0, i, B, B', hj, hB, hm => by
  obtain ⟨⟨_, _, _, _, hs⟩, _⟩ := Q6w ids2 h
  simp only [List.getElem?_cons_zero, Option.some.injEq] at hj
  subst hj
  rw [hB] at hs
  intro sv svs sv' svs'
  cases t with
  | mat t et e => cases hh
  | row t e =>
   simp only [mkB, List.getElem?_cons_zero, Option.some.injEq] at hm
   subst hm
   rcases hs with hs | ⟨ver, l, hs⟩
   ·cases hs
   ·injection hs with hs
    subst hs
    exact KeepR.ofRow ⟨by simp only [Q6j]; omega, fun h => absurd h (by simp only [Q6j]; omega)⟩
  | tree t e =>
   simp only [mkB, List.getElem?_cons_zero, Option.some.injEq] at hm
   subst hm
   rcases hs with hs | ⟨ver, iver, l, hs, _⟩
   ·cases hs
   ·injection hs with hs
    subst hs
    exact KeepR.ofTree ⟨by simp only [Q6j]; omega, by simp only [Q6j]; omega, fun h => absurd h (by simp only [Q6j]; omega)⟩
  | cells t l =>
   simp only [mkB, List.getElem?_cons_zero, Option.some.injEq] at hm
   subst hm
   exact ⟨(fun _ _ _ _ h => by cases h), (fun _ _ _ _ _ _ _ h => by cases h), fun _ _ _ _ _ _ h => by cases h⟩
  | map t k v vg =>
   simp only [mkB, List.getElem?_cons_zero, Option.some.injEq] at hm
   subst hm
   exact ⟨(fun _ _ _ _ h => by cases h), (fun _ _ _ _ _ _ _ h => by cases h), fun _ _ _ _ _ _ h => by cases h⟩
  | fmap t l =>
   simp only [mkB, List.getElem?_cons_zero, Option.some.injEq] at hm
   subst hm
   exact ⟨(fun _ _ _ _ h => by cases h), (fun _ _ _ _ _ _ _ h => by cases h), fun _ _ _ _ _ _ h => by cases h⟩
 | t :: is, k :: js, y, y2, hh, h, j + 1, i, B, B', hj, hB, hm => by
  obtain ⟨⟨z, hz, _, _, _⟩, _⟩ := Q6w ids2 h
  have hh' : BT.hand is = true := by cases t <;> first | exact hh | cases hh
  have hj' : js[j]? = some i := by simpa using hj
  cases t <;> simp only [mkB, List.getElem?_cons_succ] at hm <;> exact Qdz hh' hz j i B B' hj' hB hm
theorem Qhn {P : Program} {f : FuncId} {S : Spec} (h : SpecOkB P f S) (hs : S.outs = S.ins) (hc : (BT.hand S.ins && (ST.bnd S.ins.length S.res && BT.bnd S.ins.length S.ins)) = true) : AbsOk P f (hand S hs) := by
 obtain ⟨ps, is0, rs, is, run⟩ := S
 simp only at hs hc
 subst hs
 obtain ⟨k1, hc⟩ := andB hc
 obtain ⟨k4, k5⟩ := andB hc
 refine ⟨h.fn, fun bl nx args kk r hk => ?_⟩
 simp only [Qhm] at hk
 generalize hR : Q2s bl 99 (Q2b args) [] = R at hk
 split at hk
 ·cases hk
 rename_i ids0 d hv
 cases hok0 : (Qep bl R ids0 && ((ST.flat rs && BT.flat is) || Qji (Qy ps args ++ Qm (Q3v R bl) is ids0))) with
 | false => rw [hok0] at hk; cases hk
 | true =>
  rw [hok0, cond_true] at hk
  obtain ⟨hok, hfn⟩ := andB hok0
  have hok := Qcd hok
  have hfn : (ST.flat rs && BT.flat is) = true ∨ Qy ps args ++ Qm (Q3v R bl) is ids0 = [] := by
   cases hq : (ST.flat rs && BT.flat is) with
   | true => exact .inl rfl
   | false =>
    rw [hq, Bool.false_or] at hfn
    refine .inr ?_
    generalize Qy ps args ++ Qm (Q3v R bl) is ids0 = q at hfn
    cases q with
    | nil => rfl
    | cons _ _ => cases hfn
  generalize hf : Qcb R ids0 bl = fb at hk
  obtain ⟨z, hz, hcall⟩ := h.ok d _ r hk
  refine ⟨_, _, _, hz, fun bl2 hb2 ok0 base pl w us hr hus => ?_⟩
  have hagR : Q3v R bl = Q3v R bl2 := by
   funext i
   simp only [Q3v]
   cases hm : memB i R with
   | false => rfl
   | true => rw [cond_true, cond_true, hb2 i (List.mem_append_left _ (Q1i.1 hm))]
  have hidsB : ∀ i ∈ ids0, bl2 i = bl i := fun i hi => hb2 i (List.mem_append_right _ hi)
  generalize hblR : Q3v R bl2 = blR at *
  rw [hagR] at hv hfn
  unfold Ql6 at hv
  split at hv
  ·cases hv
  rename_i ids _
  split at hv
  ·cases hv
  rename_i x hx
  split at hv
  ·cases hv
  rename_i y hy
  cases hcc : (Q2t ids && !meet (Qy ps args ++ Qm blR is ids) ids) with
  | false => rw [hcc] at hv; cases hv
  | true =>
   rw [hcc, cond_true, Option.some.injEq, Prod.mk.injEq] at hv
   obtain ⟨rfl, rfl⟩ := hv
   obtain ⟨c3, c4⟩ := andB hcc
   have c3 := Q3m c3
   simp only [Bool.not_eq_true'] at c4
   have c4 := Q7z.1 c4
   have hsub : ∀ i B, blR i = some B → bl2 i = some B := fun i B hB => by
    rw [← hblR] at hB
    simp only [Q3v] at hB
    cases hm : memB i R with
    | false => rw [hm] at hB; cases hB
    | true => rw [hm] at hB; exact hB
   have hfree : ∀ i ∈ ids, blR i = none → bl2 i = none := fun i hi hn => by
    rcases hok i hi with h | h
    ·rw [← hblR] at hn
     simp only [Q3v, Q1i.2 h, cond_true] at hn
     exact hn
    ·rw [hidsB i hi]; exact h
   have hsome : ∀ i ∈ ids, ∀ B, bl2 i = some B → blR i = some B := fun i hi B hB => by
    cases hn : blR i with
    | none => rw [hfree i hi hn] at hB; cases hB
    | some B' => rw [hsub i B' hn] at hB; exact hB
   let ER : Env := envR ok0 base pl bl2 blR w
   have hext : Ext (Q0 ok0 base pl bl2 w) ER := ⟨Nat.le_refl _, fun g h _ => ⟨h, rfl⟩, fun _ _ h => h, fun b sv svs h => ⟨sv, svs, h, KeepR.of_eq (fun C hC => hsub b C hC) _ _⟩⟩
   have hargs : VReps ER args us := by
    have : ∀ {vs : List V} {us : List Value}, VReps (Q0 ok0 base pl bl2 w) vs us → VReps ER vs us := by
     intro vs
     induction vs with
     | nil => intro us h; exact h
     | cons v vs ih => intro us ⟨u, us', e, h1, h2⟩; exact ⟨u, us', e, VRep.mono hext h1, ih h2⟩
    exact this hus
   let n := is.length
   let plv : Nat → Option Pl := fun b => (ids[b]?).map (plOf ER)
   let blv : Nat → Option Blk := fnBl (mkB (Q1 0 is.length) is y)
   let N : Nat → Prop := fun g => (ST.flat rs && BT.flat is) = false ∧ g < w.heap.size ∧ Own pl bl2 g ∧ ¬ Own plv blv g
   let ok1 : OK0 P := ⟨fun g => ok0 g ∧ ¬ N g, fun g => ok0.no g ∨ N g⟩
   have hk2 : Qy ps args ++ Qm blR is ids = [] ∨ ok1 = ok0 := by
    rcases hfn with h | h
    ·refine .inr ?_
     have hN : ∀ g, ¬ N g := fun g hN => by have h1 := hN.1; rw [h] at h1; cases h1
     have e1 : ok1.f = ok0.f := by funext g; exact propext ⟨fun q => q.1, fun q => ⟨q, hN g⟩⟩
     have e2 : ok1.no = ok0.no := by funext g; exact propext ⟨fun q => q.resolve_right (hN g), .inl⟩
     obtain ⟨f0, n0⟩ := ok0
     exact congr (congrArg OK0.mk e1) e2
    ·exact .inl h
   obtain ⟨hrel, hT, hlen, hlive, hown⟩ := Qaj (ok1 := ok1) hr hsub hfree hx hy c3 c4 hargs
    (fun g h1 h2 => h1.imp (fun h => ⟨h, fun hN => h2 hN.2.2.1⟩) fun h => ⟨h.1, fun hn => hn.elim h.2 fun hN => h2 hN.2.2.1⟩)
    hk2
    (fun g hn => hn.elim (fun h => ⟨(hr.glob.no g h).1, fun ho => (hr.glob.no g h).2 (Qhk hr hsub hy ho)⟩) fun hN => ⟨hN.2.1, hN.2.2.2⟩)
   have hplv : ∀ b i B, ids[b]? = some i → bl2 i = some B → plv b = pl i := fun b i B hb hB => by
    obtain ⟨p, hp, _⟩ := hr.blks i B hB
    have := hsome i (List.mem_of_getElem? hb) B hB
    simp [plv, hb, plOf, ER, envR, this, hp]
   have hownv : ∀ g, Own plv blv g → Own pl bl2 g := fun g h => by
    obtain ⟨i, B, p, _, h1, h2, h3, h4⟩ := hown g h
    exact ⟨i, B, p, hsub i B h1, h2, h3, h4⟩
   refine (hcall ok1 base plv w us hr.baseLe hrel hT).mono fun e w' hpost => ?_
   obtain ⟨vals, pl', rfl, hRo, hS, hTo⟩ := hpost
   let blo : Nat → Option Blk := fnBl (mkB (Q1 0 is.length) is z.2)
   let Eo : Env := Q0 ok1 base pl' blo w'
   let pl3 : Nat → Option Pl := fun i => match place ids i with | some b => pl' b | none => pl i
   have hbl : ∀ i, updL bl2 (ids.zip (Q3p fb ids (mkB ids is z.2))) i = match place ids i with | some b => (Q3p fb ids (mkB ids is z.2))[b]? | none => bl2 i :=
    fun i => Qfj i c3 (by rw [Q8h (by rw [Qr]; exact hlen), Qr]; exact hlen)
   generalize hbl3 : updL bl2 (ids.zip (Q3p fb ids (mkB ids is z.2))) = bl3 at *
   have hpl3n : ∀ i, place ids i = none → pl3 i = pl i := fun i h => by simp only [pl3, h]
   have hpl3s : ∀ i b, place ids i = some b → pl3 i = pl' b := fun i b h => by simp only [pl3, h]
   have hbl3n : ∀ i, place ids i = none → bl3 i = bl2 i := fun i h => by rw [hbl, h]
   have hbl3s : ∀ i b, place ids i = some b → bl3 i = ((mkB ids is z.2)[b]?).map (Q5b fb (fb i)) := fun i b h => by rw [hbl, h]; exact Qcc (Qw h)
   have hplb : ∀ i b, place ids i = some b → b < is.length := fun i b h => by rw [← hlen]; exact (List.getElem?_eq_some_iff.1 (Qw h)).1
   have hblo : ∀ b, b < is.length → ∃ B, blo b = some B ∧ B.live = true := fun b hb => by
    have hb' : b < (mkB (Q1 0 is.length) is z.2).length := by rw [Qr]; exact hb
    exact ⟨_, List.getElem?_eq_getElem hb', Q3c (List.getElem?_eq_getElem hb')⟩
   have hown2 : ∀ g, Own pl3 bl3 g → (Own pl bl2 g ∧ ∃ i B p, place ids i = none ∧ bl2 i = some B ∧ B.live = true ∧ pl i = some p ∧ p.has g) ∨ Own pl' blo g := by
    rintro g ⟨i, B, p, hB, hl, hp, hg⟩
    cases hpi : place ids i with
    | none =>
     rw [hbl3n i hpi] at hB
     rw [hpl3n i hpi] at hp
     exact .inl ⟨⟨i, B, p, hB, hl, hp, hg⟩, i, B, p, hpi, hB, hl, hp, hg⟩
    | some b =>
     rw [hpl3s i b hpi] at hp
     obtain ⟨B', hB', hl'⟩ := hblo b (hplb i b hpi)
     exact .inr ⟨b, B', p, hB', hl', hp, hg⟩
   have hkept : ∀ i B p g, place ids i = none → bl2 i = some B → B.live = true → pl i = some p → p.has g → w'.heap[g]? = w.heap[g]? ∧ ¬ Own pl' blo g := by
    intro i B p g hpi hB hl hp hg
    have hlt : g < w.heap.size := Own.lt hr ⟨i, B, p, hB, hl, hp, hg⟩
    refine hS.out g hlt fun ho => ?_
    obtain ⟨j, C, q, hj, hC, hlC, hq, hqg⟩ := hown g ho
    have hne : i ≠ j := by
     rintro rfl
     obtain ⟨b, hb⟩ := List.getElem?_of_mem hj
     rw [Q25 c3 hb] at hpi
     cases hpi
    exact hr.sep i j _ _ _ _ g hne hB (hsub j C hC) hl hlC hp hq hg hqg
   have hstep : Step pl bl2 w pl3 bl3 w' := by
    refine ⟨hS.os, hS.tape, hS.output, hS.size, fun g hlt ho => ?_, fun b g hb => ?_, fun b sv svs hb => ?_⟩
    ·obtain ⟨h1, h2⟩ := hS.out g hlt fun h => ho (hownv g h)
     refine ⟨h1, fun h => ?_⟩
     rcases hown2 g h with h | h
     ·exact ho h.1
     ·exact h2 h
    ·cases hpi : place ids b with
     | none => rw [hpl3n b hpi]; exact hb
     | some j =>
      rw [hpl3s b j hpi]
      cases hB : bl2 b with
      | none => rw [hr.fresh b hB] at hb; cases hb
      | some B => exact hS.cells j g (hplb b j hpi) (by rw [hplv j b B (Qw hpi) hB]; exact hb)
    ·cases hpi : place ids b with
     | none => exact ⟨sv, svs, by rw [hpl3n b hpi]; exact hb, KeepR.of_eq (fun C h => by rw [hbl3n b hpi] at h; exact h) _ _⟩
     | some j =>
      cases hB : bl2 b with
      | none => rw [hr.fresh b hB] at hb; cases hb
      | some B =>
       obtain ⟨sv', svs', h1⟩ := hS.rows j sv svs (hplb b j hpi) (by rw [hplv j b B (Qw hpi) hB]; exact hb)
       refine ⟨sv', svs', by rw [hpl3s b j hpi]; exact h1, ?_⟩
       have hlt : j < (mkB ids is z.2).length := by rw [Qr]; exact hplb b j hpi
       have hfb : fb b = Q6j (some B) := by
        have hm : memB b ids = true := Q1i.2 (List.mem_of_getElem? (Qw hpi))
        rw [← hf]
        simp only [Qcb, hm, cond_true]
        rw [hagR, hsome b (List.mem_of_getElem? (Qw hpi)) B hB]
       rw [hbl3s b j hpi, List.getElem?_eq_getElem hlt, Option.map_some, hfb]
       exact Qdz k1 hy j b B _ (Qw hpi) (hsome b (List.mem_of_getElem? (Qw hpi)) B hB) (List.getElem?_eq_getElem hlt) _ _ _ _
   let blm : Nat → Option Blk := fun i => match place ids i with | some b => (mkB ids is z.2)[b]? | none => bl2 i
   have hblmn : ∀ i, place ids i = none → blm i = bl2 i := fun i h => by simp only [blm, h]
   have hblms : ∀ i b, place ids i = some b → blm i = (mkB ids is z.2)[b]? := fun i b h => by simp only [blm, h]
   let Em : Env := { w := w', ok := (Q0 ok0 base pl3 bl3 w').ok, base := base, pl := pl3, bl := blm }
   have hbump : Bump fb Em (Q0 ok0 base pl3 bl3 w') := by
    have key : ∀ i B, bl3 i = some B → ∃ B0, blm i = some B0 ∧ ((B = B0 ∧ place ids i = none) ∨ B = Q5b fb (fb i) B0) := by
     intro i B hB
     cases hpi : place ids i with
     | none => rw [hbl3n i hpi] at hB; exact ⟨B, by rw [hblmn i hpi]; exact hB, .inl ⟨rfl, rfl⟩⟩
     | some b =>
      rw [hbl3s i b hpi] at hB
      obtain ⟨B0, h1, h2⟩ := Option.map_eq_some_iff.1 hB
      exact ⟨B0, by rw [hblms i b hpi]; exact h1, .inr h2.symm⟩
    have hz : ∀ i, place ids i = none → fb i = (0, 0) := fun i hi => by
     have hm : memB i ids = false := by
      cases hm : memB i ids with
      | false => rfl
      | true =>
       obtain ⟨b, hb⟩ := List.getElem?_of_mem (Q1i.1 hm)
       rw [Q25 c3 hb] at hi
       cases hi
     rw [← hf]
     simp only [Qcb, hm, cond_false]
    refine ⟨rfl, rfl, rfl, rfl, fun i t e ver l h => ?_, fun i t e ver iver hh l h => ?_, fun i t et e ver iver hh l h => ?_⟩
    ·obtain ⟨B0, h1, h2⟩ := key i _ h
     rcases h2 with ⟨h2, h3⟩ | h2
     ·subst h2; exact ⟨ver, h1, by rw [hz i h3]; rfl⟩
     ·cases B0 <;> simp only [Q5b] at h2 <;> first | (cases h2; done) | skip
      injection h2 with q1 q2 q3 q4
      subst q1 q2 q3
      exact ⟨_, by rw [eq_of_heq q4]; exact h1, rfl⟩
    ·obtain ⟨B0, h1, h2⟩ := key i _ h
     rcases h2 with ⟨h2, h3⟩ | h2
     ·subst h2; exact ⟨ver, iver, h1, by rw [hz i h3]; rfl, by rw [hz i h3]; rfl⟩
     ·cases B0 <;> simp only [Q5b] at h2 <;> first | (cases h2; done) | skip
      injection h2 with q1 q2 q3 q4 q5 q6
      subst q1 q2 q3 q4 q5
      exact ⟨_, _, by rw [eq_of_heq q6]; exact h1, rfl, rfl⟩
    ·obtain ⟨B0, h1, h2⟩ := key i _ h
     rcases h2 with ⟨h2, h3⟩ | h2
     ·subst h2; exact h1
     ·cases B0 <;> simp only [Q5b] at h2 <;> first | (cases h2; done) | skip
      exact h2 ▸ h1
   have hfl : (ST.flat rs && BT.flat is) = false ∨ (ST.flat rs = true ∧ BT.flat is = true) := by
    cases hf : (ST.flat rs && BT.flat is) with
    | false => exact .inl rfl
    | true => exact .inr (andB hf)
   have hdat : ∀ (τ : Ty) (x : τ.den) (us : List Value), ((ST.flat rs && BT.flat is) = false ∨ τ.flat = true) → DRep Eo.w Eo.ok τ x us → DRep Em.w Em.ok τ x us := fun τ x us hor hd => by
    rcases hor with hq | hq
    ·refine hd.mono fun g hg _ => ⟨?_, rfl⟩
     obtain ⟨h1, h2⟩ := hg
     have hnN : ¬ N g := h1.elim (fun h => h.2) fun h hN => h.2 (.inr hN)
     refine ⟨h1.imp (fun h => h.1) fun h => ⟨h.1, fun hn => h.2 (.inl hn)⟩, fun ho => ?_⟩
     rcases hown2 g ho with ⟨ho2, i, B, p, hpi, hB, hl, hp, hpg⟩ | ho2
     ·refine hnN ⟨hq, Own.lt hr ho2, ho2, fun hov => ?_⟩
      obtain ⟨j, C, q, hj, hC, hlC, hq, hqg⟩ := hown g hov
      have hne : i ≠ j := by
       rintro rfl
       obtain ⟨b, hb⟩ := List.getElem?_of_mem hj
       rw [Q25 c3 hb] at hpi
       cases hpi
      exact hr.sep i j _ _ _ _ g hne hB (hsub j C hC) hl hlC hp hq hpg hqg
     ·exact h2 ho2
    ·exact hd.flat hq
   have hren2 : Ren2 is.length Eo Em (Q1 0 is.length) ids := by
    have key : ∀ b, b < is.length → pl3 (ids.getD b 0) = pl' b ∧ blm (ids.getD b 0) = (mkB ids is z.2)[b]? := by
     intro b hb
     have hb' : b < ids.length := by omega
     have hget : ids[b]? = some ids[b] := List.getElem?_eq_getElem hb'
     have hgd : ids.getD b 0 = ids[b] := by simp [List.getD, hget]
     have hpb := Q25 c3 hget
     rw [hgd]
     exact ⟨hpl3s _ b hpb, hblms _ b hpb⟩
    refine ⟨fun b g hb h => ?_, fun b sv svs hb h => ?_⟩
    ·rw [Q2l hb] at h
     show pl3 _ = _
     rw [(key b hb).1]
     exact h
    ·rw [Q2l hb] at h ⊢
     refine ⟨?_, fun t e ver l h2 => ?_, fun t et e ver iver hole l h2 => ?_, fun t e ver iver hole l h2 => ?_⟩
     ·show pl3 _ = _
      rw [(key b hb).1]
      exact h
     ·have h3 : blm (ids.getD b 0) = some (.row t e ver l) := h2
      rw [(key b hb).2] at h3
      exact Q42 h3
     ·have h3 : blm (ids.getD b 0) = some (.mat t et e ver iver hole l) := h2
      rw [(key b hb).2] at h3
      exact Q43 h3
     ·have h3 : blm (ids.getD b 0) = some (.tree t e ver iver hole l) := h2
      rw [(key b hb).2] at h3
      exact Qb1 h3
   refine ⟨Q24 vals, pl3, rfl, ⟨Nat.le_trans hr.baseLe hS.size, fun i B hB => ?_, fun i j B C p q g hij hB hC hlB' hlC hp hq hpg => ?_, fun i hi => ?_, hr.glob.out hstep.size hstep.out⟩, hstep, ?_⟩
   ·cases hpi : place ids i with
    | none =>
     rw [hbl3n i hpi] at hB
     obtain ⟨p, hp, hBR⟩ := hr.blks i B hB
     refine ⟨p, by rw [hpl3n i hpi]; exact hp, ?_⟩
     cases hl : B.live with
     | false => cases B <;> first | exact trivial | simp [Blk.live] at hl
     | true => exact BRep.mono hstep.ext hBR fun g hg => (hkept i B p g hpi hB hl hp hg).1
    | some b =>
     obtain ⟨Bo, hBo, hlo⟩ := hblo b (hplb i b hpi)
     obtain ⟨p, hp, hBR⟩ := hRo.blks b Bo hBo
     obtain ⟨B', h1, h2, _, _, _, _⟩ := Q41 hren2 (Nat.le_refl _) hdat rfl k5 (hfl.imp id (·.2)) hBo hBR
     rw [hbl3s i b hpi, h1, Option.map_some, Option.some.injEq] at hB
     subst hB
     exact ⟨p, by rw [hpl3s i b hpi]; exact hp, h2.bump hbump (fb i)⟩
   ·cases hpi : place ids i with
    | none =>
     rw [hbl3n i hpi] at hB
     rw [hpl3n i hpi] at hp
     cases hpj : place ids j with
     | none =>
      rw [hbl3n j hpj] at hC
      rw [hpl3n j hpj] at hq
      exact hr.sep i j B C p q g hij hB hC hlB' hlC hp hq hpg
     | some b =>
      rw [hpl3s j b hpj] at hq
      intro hqg
      obtain ⟨Bo, hBo, hlo⟩ := hblo b (hplb j b hpj)
      exact (hkept i B p g hpi hB hlB' hp hpg).2 ⟨b, Bo, q, hBo, hlo, hq, hqg⟩
    | some b =>
     rw [hpl3s i b hpi] at hp
     obtain ⟨Bo, hBo, hlo⟩ := hblo b (hplb i b hpi)
     cases hpj : place ids j with
     | none =>
      rw [hbl3n j hpj] at hC
      rw [hpl3n j hpj] at hq
      intro hqg
      exact (hkept j C q g hpj hC hlC hq hqg).2 ⟨b, Bo, p, hBo, hlo, hp, hpg⟩
     | some b' =>
      rw [hpl3s j b' hpj] at hq
      obtain ⟨Bo', hBo', hlo'⟩ := hblo b' (hplb j b' hpj)
      have hbb : b ≠ b' := by
       rintro rfl
       have h1 := Qw hpi
       have h2 := Qw hpj
       rw [h1] at h2
       injection h2 with h2
       exact hij h2
      exact hRo.sep b b' _ _ p q g hbb hBo hBo' hlo hlo' hp hq hpg
   ·cases hpi : place ids i with
    | none =>
     rw [hbl3n i hpi] at hi
     rw [hpl3n i hpi]
     exact hr.fresh i hi
    | some b =>
     rw [hbl3s i b hpi] at hi
     have := hplb i b hpi
     rw [Option.map_eq_none_iff, List.getElem?_eq_none_iff, Qr] at hi
     omega
   ·exact TReps.res ((Qd0 hren2 hdat k4 (hfl.imp id (·.1)) hTo).bump hbump)
@[reducible] def frzA (A : AbsF) : AbsF := ⟨fun {_} bl nx args kk => Q2v bl (Qe args) (fun bl' kk' => A.run bl' nx (args.map (frzV bl)) kk') kk⟩
theorem Qlg {P : Program} {f : FuncId} {A : AbsF} (h : AbsOk P f A) : AbsOk P f (frzA A) := by
 refine ⟨h.fn, fun bl nx args kk r hk => ?_⟩
 have hk : A.run (updL bl (Qf bl (Qe args))) nx (args.map (frzV bl)) (fun v rd wr => kk v (Qe args ++ rd) (Qf bl (Qe args) ++ wr)) = some r := by
  rw [← Q7b]
  exact hk
 obtain ⟨v, rd, wr, hkk, hok⟩ := h.ok _ _ _ _ _ hk
 refine ⟨v, _, _, hkk, fun bl2 hb2 ok0 base pl w us hr hus => ?_⟩
 obtain ⟨h1, h2, h3⟩ := freeze (bl := bl) hr (Qe args) fun b hb => hb2 b (List.mem_append_left _ hb)
 have hrd : ∀ b ∈ rd, updL bl2 (Qf bl (Qe args)) b = updL bl (Qf bl (Qe args)) b := fun b hb => by
  by_cases hm : b ∈ wids (Qf bl (Qe args))
  ·exact Q4p hm
  ·rw [Qx hm, Qx hm]
   exact hb2 b (List.mem_append_right _ hb)
 have key : ∀ (vs : List V) (us : List Value), (∀ v ∈ vs, v ∈ args) → VReps (Q0 ok0 base pl bl2 w) vs us → VReps (Q0 ok0 base pl (updL bl2 (Qf bl (Qe args))) w) (vs.map (frzV bl)) us := by
  intro vs
  induction vs with
  | nil => intro us _ h; exact h
  | cons v vs ih =>
   rintro us hm ⟨u, us', e, q1, q2⟩
   exact ⟨u, us', e, h3 v u (Q6v (hm v (by simp))) q1, ih us' (fun x hx => hm x (by simp [hx])) q2⟩
 refine (hok _ hrd ok0 base pl w us h1 (key args us (fun _ h => h) hus)).mono fun e w' ⟨u, pl', q1, q2, q3, q4⟩ => ?_
 rw [Q22]
 exact ⟨u, pl', q1, q2, h2.trans q3, q4⟩
end
end Go.Lift
namespace Go.Lift
noncomputable section
open Go.RowKit
universe u
class Sl where
 u : Nat
variable [S : Sl]
def hid {α : Sort u} (a : α) : α := match S.u with | 0 => a | _ + 1 => a
theorem Q2 {α : Sort u} (a : α) : hid a = a := by
 unfold hid
 cases S.u <;> rfl
@[reducible] def CT.Fn (R : Type) : List CT → Type
 | [] => R
 | .data τ :: r => τ.den → CT.Fn R r
 | .lsome e :: r => List e.den → CT.Fn R r
 | .tptrh _ ks _ :: r => WayT ks → CT.Fn R r
 | .ptr _ _ :: r | .rowh _ :: r | .fn _ _ :: r | .maph _ :: r | .math _ :: r | .bself _ :: r | .bfnh _ _ :: r | .trowh _ :: r | .nilc :: r | .nils :: r | .junk :: r => CT.Fn R r
@[reducible] def ST.Fn (R : Type) : List (Bool × List CT) → Type
 | [] => R
 | t :: r => CT.Fn (ST.Fn R r) t.2
@[reducible] def BT.Fn (R : Type) : List BT → Type
 | [] => R
 | .cells _ l :: r => CT.Fn (BT.Fn R r) l
 | .row _ e :: r => List e.den → BT.Fn R r
 | .map _ k v _ :: r => List (k.den × v.den) → BT.Fn R r
 | .mat _ _ e :: r => List (List e.den) → BT.Fn R r
 | .tree _ e :: r => List e.ty.den → BT.Fn R r
 | .fmap _ _ :: r => BT.Fn R r
def CT.app {R : Type} : (l : List CT) → CT.Fn R l → CT.dens l → R
 | [], f, _ => f
 | .data _ :: r, f, d => CT.app r (f d.1) d.2
 | .lsome _ :: r, f, d => CT.app r (f d.1) d.2
 | .tptrh _ _ _ :: r, f, d => CT.app r (f d.1) d.2
 | .ptr _ _ :: r, f, d | .rowh _ :: r, f, d | .fn _ _ :: r, f, d | .maph _ :: r, f, d | .math _ :: r, f, d | .bself _ :: r, f, d | .bfnh _ _ :: r, f, d | .trowh _ :: r, f, d | .nilc :: r, f, d | .nils :: r, f, d | .junk :: r, f, d => CT.app r f d
def ST.app {R : Type} : (l : List (Bool × List CT)) → ST.Fn R l → ST.dens l → R
 | [], f, _ => f
 | t :: r, f, d => ST.app r (CT.app t.2 f d.1) d.2
def BT.app {R : Type} : (l : List BT) → BT.Fn R l → BT.dens l → R
 | [], f, _ => f
 | .cells _ l :: r, f, d => BT.app r (CT.app l f d.1) d.2
 | .row _ _ :: r, f, d => BT.app r (f d.1) d.2
 | .map _ _ _ _ :: r, f, d => BT.app r (f d.1) d.2
 | .mat _ _ _ :: r, f, d => BT.app r (f d.1) d.2
 | .tree _ _ :: r, f, d => BT.app r (f d.1) d.2
 | .fmap _ _ :: r, f, d => BT.app r f d
def CT.lam {R : Type} : (l : List CT) → (CT.dens l → R) → CT.Fn R l
 | [], f => f ()
 | .data _ :: r, f => fun x => CT.lam r fun d => f (x, d)
 | .lsome _ :: r, f => fun x => CT.lam r fun d => f (x, d)
 | .tptrh _ _ _ :: r, f => fun x => CT.lam r fun d => f (x, d)
 | .ptr _ _ :: r, f | .rowh _ :: r, f | .fn _ _ :: r, f | .maph _ :: r, f | .math _ :: r, f | .bself _ :: r, f | .bfnh _ _ :: r, f | .trowh _ :: r, f | .nilc :: r, f | .nils :: r, f | .junk :: r, f => CT.lam r f
def ST.lam {R : Type} : (l : List (Bool × List CT)) → (ST.dens l → R) → ST.Fn R l
 | [], f => f ()
 | t :: r, f => CT.lam t.2 fun a => ST.lam r fun d => f (a, d)
def BT.lam {R : Type} : (l : List BT) → (BT.dens l → R) → BT.Fn R l
 | [], f => f ()
 | .cells _ l :: r, f => CT.lam l fun a => BT.lam r fun d => f (a, d)
 | .row _ _ :: r, f => fun x => BT.lam r fun d => f (x, d)
 | .map _ _ _ _ :: r, f => fun x => BT.lam r fun d => f (x, d)
 | .mat _ _ _ :: r, f => fun x => BT.lam r fun d => f (x, d)
 | .tree _ _ :: r, f => fun x => BT.lam r fun d => f (x, d)
 | .fmap _ _ :: r, f => BT.lam r f
@[reducible] def VF (R : Type) (s : List (Bool × List CT)) (b : List BT) : Type := ST.Fn (BT.Fn R b) s
def vapp {R : Type} (s : List (Bool × List CT)) (b : List BT) (f : VF R s b) (d : ST.dens s × BT.dens b) : R := BT.app b (ST.app s f d.1) d.2
def vlam {R : Type} (s : List (Bool × List CT)) (b : List BT) (g : ST.dens s × BT.dens b → R) : VF R s b := ST.lam s fun x => BT.lam b fun y => g (x, y)
def CT.some? : List CT → Bool
 | [] => false
 | .data _ :: _ => true
 | .lsome _ :: _ => true
 | .tptrh _ _ _ :: _ => true
 | .ptr _ _ :: r | .rowh _ :: r | .fn _ _ :: r | .maph _ :: r | .math _ :: r | .bself _ :: r | .bfnh _ _ :: r | .trowh _ :: r | .nilc :: r | .nils :: r | .junk :: r => CT.some? r
def ST.some? : List (Bool × List CT) → Bool
 | [] => false
 | t :: r => CT.some? t.2 || ST.some? r
def BT.some? : List BT → Bool
 | [] => false
 | .cells _ l :: r => CT.some? l || BT.some? r
 | .fmap _ _ :: r => BT.some? r
 | _ :: _ => true
@[reducible] def selT (A B : Type) : Bool → Type
 | true => A
 | false => B
@[reducible] def KF (R : Type) (s : List (Bool × List CT)) (b : List BT) : Type := selT (VF R s b) (Unit → VF R s b) (ST.some? s || BT.some? b)
def selk {R : Type} {s : List (Bool × List CT)} {b : List BT} (f : VF R s b) : (c : Bool) → selT (VF R s b) (Unit → VF R s b) c
 | true => f
 | false => fun _ => f
def klam {R : Type} (s : List (Bool × List CT)) (b : List BT) (g : ST.dens s × BT.dens b → R) : KF R s b := selk (vlam s b g) _
def sgE (ps : List (Bool × List CT)) (is : List BT) (rs : List (Bool × List CT)) (os : List BT) (f : (β : Type) → VF (KF (Option β) rs os → Option β) ps is) : Spec :=
 ⟨ps, is, rs, os, fun {β} x k => vapp ps is (f β) x (klam rs os k)⟩
abbrev sg (ps : List (Bool × List CT)) (is : List BT) (rs : List (Bool × List CT)) (os : List BT) (f : {β : Type} → VF (KF (Option β) rs os → Option β) ps is) : Spec := sgE ps is rs os fun β => f (β := β)
theorem Qd6 {F : Type → Type} (s : (β : Type) → F β) : (fun β => hid (s β)) = s := funext fun β => Q2 (s β)
@[reducible] def OF (β R : Type) : List (AExit × View) → Type
 | [] => R
 | x :: r => KF (Option β) x.2.params x.2.ins → OF β R r
def oapp {β R : Type} : (l : List (AExit × View)) → OF β R l → Outs.K β l → R
 | [], f, _ => f
 | x :: r, f, ks => oapp r (f (klam x.2.params x.2.ins ks.1)) ks.2
abbrev Pc.T (p : Pc) (β : Type) : Type := OF β (VF (Option β) p.v.params p.v.ins) p.o
def Pc.un (p : Pc) (f : (β : Type) → p.T β) : p.G := fun {β} d ks => vapp _ _ (oapp p.o (f β) ks) d
def Qmv (P : Program) (f : Nat) : Fun → Prop
 | .spec S => SpecOk P f S
 | .rows F => RowOk P f F
 | .bld F => BldOk P f F
 | .abs A => AbsOk P f A
structure Ent (P : Program) where
 no : Nat
 F : Fun
 ok : Qmv P no F
def Ent.of {P : Program} {no : Nat} {S : Spec} (h : SpecOk P no S) : Ent P := ⟨no, .spec S, h⟩
@[reducible] def gam {P : Program} (l : List (Ent P)) : Nat → Option Fun := Q1g (l.map fun e => (e.no, e.F))
theorem Q3q {P : Program} : ∀ l : List (Ent P), ΓOk P (gam l)
 | [] => ΓOk_nil
 | ⟨_, .spec _, h⟩ :: l => ΓOk_cons h (Q3q l)
 | ⟨_, .rows _, h⟩ :: l => ΓOk_row h (Q3q l)
 | ⟨_, .bld _, h⟩ :: l => ΓOk_bld h (Q3q l)
 | ⟨_, .abs _, h⟩ :: l => ΓOk_abs h (Q3q l)
structure PB (P : Program) where
 q : Nat
 p : Pc
 f : (β : Type) → p.T β
 ok : p.Ok P (p.un f)
@[reducible] def cuts {P : Program} (l : List (PB P)) : Nat → Option Cut := Q1g (l.map fun b => (b.q, b.p.cut (b.p.un b.f)))
theorem Qa3 {P : Program} {n m q : Nat} {c : Code} : ∀ {l : List (PB P)}, l.map (fun b => (find b.q q c, b.p.v.m, b.p.n, b.p.m)) = l.map (fun b => ([b.p.c], m, n, m)) → Q65 P n m q c (cuts l)
 | [], _ => Qif
 | b :: l, h => by
  simp only [List.map_cons, List.cons.injEq, Prod.mk.injEq] at h
  obtain ⟨⟨h1, h2, h3, h4⟩, h5⟩ := h
  have hb := b.ok
  unfold Pc.Ok at hb
  rw [h3, h4] at hb
  exact Qgz h1 h2 hb (Qa3 h5)
theorem Qho {P : Program} (hmx : P.follows .mixedOrders = true) {X : Ctx} (hT : TOk P X.T) (es : List (Ent P)) (hX : X.Γ = gam es) (cs : List (PB P)) {ps rs : List (Bool × List CT)} {is os : List BT} {f : FuncId} {fn : Func}
  (vs : List RS) {s : (β : Type) → VF (KF (Option β) rs os → Option β) ps is} (hf : P.funcs[f]? = some fn)
  (hc : ((fn.name == "runtime.NumGoroutine"), fn.body, fn.results.toList, (Nat.beq vs.length rs.length && (ST.tidy rs && Nat.ble ps.length fn.ntmps)), cs.map (fun b => (find b.q 1 (Q3 fn), b.p.v.m, b.p.n, b.p.m)))
   = (false, some (Q3 fn), vs.map RS.toVar, true, cs.map (fun b => ([b.p.c], is.length, fn.ntmps, is.length))))
  (h : ∀ {β : Type} (x : ST.dens ps × BT.dens is) (k : ST.dens rs × BT.dens os → Option β), exec X fn.ntmps (cuts cs) 1 (Q3 fn) ((vIn (sgE ps is rs os s)).mk' x) (retK X.T (sgE ps is rs os s) vs k) = vapp ps is (s β) x (klam rs os k)) :
  SpecOkB P f (sgE ps is rs os fun β => hid (s β)) := by
 simp only [Prod.mk.injEq] at hc
 obtain ⟨h1, h2, h3, h4, h5⟩ := hc
 rw [Qd6]
 exact pcSB hmx X hT (hX ▸ Q3q es) (cuts cs) vs hf h1 h2 h3 h4 (Qa3 h5) h
theorem Q9c {P : Program} (hmx : P.follows .mixedOrders = true) {X : Ctx} (hT : TOk P X.T) (es : List (Ent P)) (hX : X.Γ = gam es) (cs : List (PB P)) {ps rs : List (Bool × List CT)} {is os : List BT} {f : FuncId} {fn : Func}
  (vs : List RS) {s : (β : Type) → VF (KF (Option β) rs os → Option β) ps is} (hf : P.funcs[f]? = some fn)
  (hc : ((fn.name == "runtime.NumGoroutine"), fn.body, fn.results.toList, (Nat.beq vs.length rs.length && (ST.tidy rs && Nat.ble ps.length fn.ntmps)), cs.map (fun b => (find b.q 1 (Q3 fn), b.p.v.m, b.p.n, b.p.m)))
   = (false, some (Q3 fn), vs.map RS.toVar, true, cs.map (fun b => ([b.p.c], is.length, fn.ntmps, is.length))))
  (h : ∀ {β : Type} (x : ST.dens ps × BT.dens is) (k : ST.dens rs × BT.dens os → Option β), exec X fn.ntmps (cuts cs) 1 (Q3 fn) ((vIn (sgE ps is rs os s)).mk' x) (retK X.T (sgE ps is rs os s) vs k) = vapp ps is (s β) x (klam rs os k)) :
  SpecOk P f (sgE ps is rs os fun β => hid (s β)) := (Qho hmx hT es hX cs vs hf hc h).spec
theorem Qeq {P : Program} (hmx : P.follows .mixedOrders = true) {X : Ctx} (hT : TOk P X.T) (es : List (Ent P)) (hX : X.Γ = gam es) (cs : List (PB P)) {p : Pc} {g : Nat → (β : Type) → p.T β}
  (hc : ((p.o.all fun x => Nat.beq x.2.m p.m), cs.map (fun b => (find b.q 1 (Q1e p.c), b.p.v.m, b.p.n, b.p.m))) = (true, cs.map (fun b => ([b.p.c], p.m, p.n, p.m)))) (hv : p.v.m = p.m) (hl : p.c = .loop (Q1e p.c))
  (h0 : ∀ {β : Type} (d : p.v.den) (ks : Outs.K β p.o), p.un (g 0) d ks = none)
  (h : ∀ (i : Nat) {β : Type} (d : p.v.den) (ks : Outs.K β p.o), exec X p.n (cuts cs) 1 (Q1e p.c) (p.v.mk' d) (Qc4 p.v (fun d' => p.un (g i) d' ks) p.o ks) = p.un (g (i + 1)) d ks) : p.Ok P (p.un fun β => hid (g fuel β)) := by
 simp only [Prod.mk.injEq] at hc
 rw [Qd6]
 exact pcL hmx X hT (hX ▸ Q3q es) (G := fun i => p.un (g i)) (cuts cs) hl hv hc.1 (Qa3 hc.2) h0 h fuel
theorem Qih {P : Program} (hmx : P.follows .mixedOrders = true) {X : Ctx} (hT : TOk P X.T) (es : List (Ent P)) (hX : X.Γ = gam es) (cs : List (PB P)) (q : Nat) {p : Pc} {g : (β : Type) → p.T β}
  (hc : ((p.o.all fun x => Nat.beq x.2.m p.m), cs.map (fun b => (find b.q q p.c, b.p.v.m, b.p.n, b.p.m))) = (true, cs.map (fun b => ([b.p.c], p.m, p.n, p.m))))
  (h : ∀ {β : Type} (d : p.v.den) (ks : Outs.K β p.o), exec X p.n (cuts cs) q p.c (p.v.mk' d) (outK p.o ks) = p.un g d ks) : p.Ok P (p.un fun β => hid (g β)) := by
 simp only [Prod.mk.injEq] at hc
 rw [Qd6]
 exact pcE hmx X hT (hX ▸ Q3q es) q (cuts cs) hc.1 (Qa3 hc.2) h
noncomputable def Ent.inl {P : Program} (hmx : P.follows .mixedOrders = true) {X : Ctx} (hT : TOk P X.T) (es : List (Ent P)) (hX : X.Γ = gam es) {no : Nat} {fn : Func} {rs : List RS} (m : Nat) (hf : P.funcs[no]? = some fn)
  (hc : ((fn.name == "runtime.NumGoroutine"), fn.body, fn.results.toList) = (false, some (Q3 fn), rs.map RS.toVar)) : Ent P :=
 ⟨no, .abs (Go.Lift.inl X fn.ntmps (Q3 fn) rs m), Qmc hmx hT (hX ▸ Q3q es) m hf hc⟩
noncomputable def Ent.hand {P : Program} {no : Nat} {S : Spec} (h : SpecOkB P no S) (hs : S.outs = S.ins) (hc : (BT.hand S.ins && (ST.bnd S.ins.length S.res && BT.bnd S.ins.length S.ins)) = true) : Ent P :=
 ⟨no, .abs (Go.Lift.hand S hs), Qhn h hs hc⟩
noncomputable def Ent.handf {P : Program} {no : Nat} {S : Spec} (h : SpecOkB P no S) (hs : S.outs = S.ins) (hc : (BT.hand S.ins && (ST.bnd S.ins.length S.res && BT.bnd S.ins.length S.ins)) = true) : Ent P :=
 ⟨no, .abs (frzA (Go.Lift.hand S hs)), Qlg (Qhn h hs hc)⟩
noncomputable def Ent.stub {P : Program} (no : Nat) (hf : ∃ fn, P.funcs[no]? = some fn ∧ (fn.name == "runtime.NumGoroutine") = false ∧ fn.body.isNone = false) : Ent P :=
 ⟨no, .abs ⟨fun _ _ _ _ => none⟩, hf, fun _ _ _ _ _ h => nomatch h⟩
end
end Go.Lift
namespace Go.Lift
noncomputable section
open Go.RowKit
section
theorem CT.app_lam {R : Type} : ∀ (l : List CT) (f : CT.dens l → R) (d : CT.dens l), CT.app l (CT.lam l f) d = f d
 | [], _, _ => rfl
 | c :: r, f, d => by
  cases c <;> first | exact CT.app_lam r _ d | exact CT.app_lam r _ d.2
theorem ST.app_lam {R : Type} : ∀ (l : List (Bool × List CT)) (f : ST.dens l → R) (d : ST.dens l), ST.app l (ST.lam l f) d = f d
 | [], _, _ => rfl
 | t :: r, f, d => by
  show ST.app r (CT.app t.2 (CT.lam t.2 fun a => ST.lam r fun d => f (a, d)) d.1) d.2 = _
  rw [CT.app_lam, ST.app_lam]
theorem BT.app_lam {R : Type} : ∀ (l : List BT) (f : BT.dens l → R) (d : BT.dens l), BT.app l (BT.lam l f) d = f d
 | [], _, _ => rfl
 | .cells _ l :: r, f, d => by
  show BT.app r (CT.app l (CT.lam l fun a => BT.lam r fun d => f (a, d)) d.1) d.2 = _
  rw [CT.app_lam, BT.app_lam]
 | .row _ _ :: r, f, d => BT.app_lam r _ d.2
 | .map _ _ _ _ :: r, f, d => BT.app_lam r _ d.2
 | .mat _ _ _ :: r, f, d => BT.app_lam r _ d.2
 | .tree _ _ :: r, f, d => BT.app_lam r _ d.2
 | .fmap _ _ :: r, f, d => BT.app_lam r _ d
theorem Qe0 {R : Type} (s : List (Bool × List CT)) (b : List BT) (g : ST.dens s × BT.dens b → R) (d : ST.dens s × BT.dens b) : vapp s b (vlam s b g) d = g d := by
 unfold vapp vlam
 rw [ST.app_lam, BT.app_lam]
def selu {A : Type} : (c : Bool) → selT A (Unit → A) c → A
 | true, f => f
 | false, f => f ()
def kapp {R : Type} (s : List (Bool × List CT)) (b : List BT) (f : KF R s b) : ST.dens s × BT.dens b → R := vapp s b (selu _ f)
theorem Qjk {R : Type} {s : List (Bool × List CT)} {b : List BT} (f : VF R s b) : ∀ c, selu c (selk (s := s) (b := b) f c) = f
 | true => rfl
 | false => rfl
theorem Qjl {R : Type} (s : List (Bool × List CT)) (b : List BT) (k : ST.dens s × BT.dens b → R) : kapp s b (klam s b k) = k := by
 funext d
 unfold kapp klam
 rw [Qjk, Qe0]
end
set_option linter.unusedSectionVars false
variable [S : Sl]
def Qa4 (X : Ctx) (n : Nat) (c : Code) (ps : List (Bool × List CT)) (is : List BT) (rs : List (Bool × List CT)) (os : List BT) (vs : List RS) {β : Type} (x : ST.dens ps × BT.dens is) (k : ST.dens rs × BT.dens os → Option β) : Option β :=
 exec X n (fun _ => none) 1 c ((vIn ⟨ps, is, rs, os, fun _ _ => none⟩).mk' x) (retK X.T ⟨ps, is, rs, os, fun _ _ => none⟩ vs k)
theorem Qhp (X : Ctx) (n : Nat) (c : Code) {ps : List (Bool × List CT)} {is : List BT} {rs : List (Bool × List CT)} {os : List BT} (vs : List RS) (run : {β : Type} → ST.dens ps × BT.dens is → (ST.dens rs × BT.dens os → Option β) → Option β) {β : Type} (x : ST.dens ps × BT.dens is) (k : ST.dens rs × BT.dens os → Option β) :
  exec X n (fun _ => none) 1 c ((vIn ⟨ps, is, rs, os, run⟩).mk' x) (retK X.T ⟨ps, is, rs, os, run⟩ vs k) = Qa4 X n c ps is rs os vs x k := by
 have : retK X.T ⟨ps, is, rs, os, run⟩ vs k = retK X.T ⟨ps, is, rs, os, fun _ _ => none⟩ vs k := by funext e σ; cases e <;> first | rfl | kernel_rfl
 rw [this]
 rfl
theorem Qz {P : Program} (hmx : P.follows .mixedOrders = true) {X : Ctx} (hT : TOk P X.T) (es : List (Ent P)) (hX : X.Γ = gam es) {ps rs : List (Bool × List CT)} {is os : List BT} {f : FuncId} {fn : Func}
  (vs : List RS) (hf : P.funcs[f]? = some fn)
  (hc : ((fn.name == "runtime.NumGoroutine"), fn.body, fn.results.toList, (Nat.beq vs.length rs.length && (ST.tidy rs && Nat.ble ps.length fn.ntmps))) = (false, some (Q3 fn), vs.map RS.toVar, true)) :
  SpecOkB P f ⟨ps, is, rs, os, fun {_} x k => Qa4 X fn.ntmps (Q3 fn) ps is rs os vs x k⟩ := by
 simp only [Prod.mk.injEq] at hc
 obtain ⟨h1, h2, h3, h4⟩ := hc
 exact Q85 hmx hT (hX ▸ Q3q es) (Λ := fun _ => none) hf h1 h2 h3 h4 (fun _ _ h => nomatch h) fun x k r hr => (Qhp X fn.ntmps (Q3 fn) vs _ x k).trans hr
noncomputable def Ent.auto {P : Program} (hmx : P.follows .mixedOrders = true) {X : Ctx} (hT : TOk P X.T) (es : List (Ent P)) (hX : X.Γ = gam es) (ps : List (Bool × List CT)) (is : List BT) (rs : List (Bool × List CT)) (os : List BT) {f : FuncId} {fn : Func}
  (vs : List RS) (hf : P.funcs[f]? = some fn)
  (hc : ((fn.name == "runtime.NumGoroutine"), fn.body, fn.results.toList, (Nat.beq vs.length rs.length && (ST.tidy rs && Nat.ble ps.length fn.ntmps))) = (false, some (Q3 fn), vs.map RS.toVar, true)) : Ent P :=
 ⟨f, .spec _, (Qz hmx hT es hX (ps := ps) (is := is) (rs := rs) (os := os) vs hf hc).spec⟩
def Q28 (X : Ctx) (fn : Func) (ps : List (Bool × List CT)) (is : List BT) (rs : List (Bool × List CT)) (os : List BT) (vs : List RS) {β : Type} : VF (KF (Option β) rs os → Option β) ps is :=
 hid (vlam ps is fun x k => Qa4 X fn.ntmps (Q3 fn) ps is rs os vs x (kapp rs os k))
theorem Qjm (X : Ctx) (fn : Func) {ps : List (Bool × List CT)} {is : List BT} {rs : List (Bool × List CT)} {os : List BT} (vs : List RS) {β : Type} (x : ST.dens ps × BT.dens is) (k : ST.dens rs × BT.dens os → Option β) :
  vapp ps is (Q28 X fn ps is rs os vs) x (klam rs os k) = Qa4 X fn.ntmps (Q3 fn) ps is rs os vs x k := by
 unfold Q28
 rw [Q2, Qe0, Qjl]
theorem Q1c {P : Program} (hmx : P.follows .mixedOrders = true) {X : Ctx} (hT : TOk P X.T) (es : List (Ent P)) (hX : X.Γ = gam es) {ps rs : List (Bool × List CT)} {is os : List BT} {f : FuncId} {fn : Func}
  (vs : List RS) (hf : P.funcs[f]? = some fn)
  (hc : ((fn.name == "runtime.NumGoroutine"), fn.body, fn.results.toList, (Nat.beq vs.length rs.length && (ST.tidy rs && Nat.ble ps.length fn.ntmps))) = (false, some (Q3 fn), vs.map RS.toVar, true)) :
  SpecOkB P f (sg ps is rs os fun {_} => Q28 X fn ps is rs os vs) := by
 simp only [Prod.mk.injEq] at hc
 obtain ⟨h1, h2, h3, h4⟩ := hc
 refine Q85 hmx hT (hX ▸ Q3q es) (Λ := fun _ => none) hf h1 h2 h3 h4 (fun _ _ h => nomatch h) fun x k r hr => ?_
 exact (Qhp X fn.ntmps (Q3 fn) vs _ x k).trans ((Qjm X fn vs x k).symm.trans hr)
end
end Go.Lift
