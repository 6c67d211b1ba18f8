/- IncidentMoves in plain Lean: the rounds and the law. -/
import Derived.Test.YtmghopaimcoloaaFn0
import Derived.Test.YtmghopaimcoloaaLBase
import Derived.Test.YtmghopaimcoloaaLDice
import Derived.Test.YtmghopaimcoloaaLTasks
import Derived.Test.YtmghopaimcoloaaLMoves
import Derived.Test.YtmghopaimcoloaaLMoves2
namespace Go.Lift
open Go.RowKit Go.IntWalk
noncomputable section
set_option linter.unusedVariables false
set_option linter.unusedSimpArgs false
set_option maxRecDepth 10000

section
variable {β : Type}
theorem moves_p1g {cA : T_incident_At} {cC : T_ref37_Check} {st : Int} {chs : List Chg} {now i : Int} {d : List Int} {d2 : Int} (hA1 : ∀ k, (cA (incm st chs) now k : Option β) = k st) (hA2 : ∀ k, (cA (incm st chs) 863999 k : Option β) = k (-1))
    (hC : ∀ k, (cC (incm st chs) k : Option β) = k true) (k1 : law37_IncidentMoves_p1_K1 β) (k2 : law37_IncidentMoves_p1_K2 β) :
    law37_IncidentMoves_p1_u cA cC k1 k2 now st i d d2 1 st 2 864000 dsk (-1) (-1) (-1) [] [] [] [] chs 0 = k2 now st i d d2 1 st 2 864000 dsk (-1) (-1) (-1) [] [] [] [] chs 0 := by
  unfold law37_IncidentMoves_p1_u law37_IncidentMoves_p1_s
  refine (c_npos rfl).trans ?_
  refine (hC _).trans ?_
  refine (hA1 _).trans ?_
  refine (c_npos rfl).trans ?_
  refine (hA2 _).trans ?_
  exact c_npos rfl

theorem at_now {st : Int} {chs : List Chg} {a' now : Int} (h : ChainOk 864000 0 chs a' st) (hst : 0 ≤ st ∧ st ≤ 3) (hl : chs.length ≤ 32) (hn : a' ≤ now) (k : Int → Option β) : incident_At (incm st chs) now k = k st := by
  have hb := h.bd
  rw [at_t h hst hl now k, if_neg (by omega), h.stAt hn]

theorem at_before {st : Int} {chs : List Chg} {a' : Int} (h : ChainOk 864000 0 chs a' st) (hst : 0 ≤ st ∧ st ≤ 3) (hl : chs.length ≤ 32) (k : Int → Option β) : incident_At (incm st chs) 863999 k = k (-1) := by
  rw [at_t h hst hl 863999 k, if_pos (by decide)]

theorem moves_p1 {st : Int} {chs : List Chg} {a' now i : Int} {d : List Int} {d2 : Int} (h : ChainOk 864000 0 chs a' st) (hst : 0 ≤ st ∧ st ≤ 3) (hl : chs.length ≤ 32) (hn : a' ≤ now) (k1 : law37_IncidentMoves_p1_K1 β) (k2 : law37_IncidentMoves_p1_K2 β) :
    law37_IncidentMoves_p1 k1 k2 now st i d d2 1 st 2 864000 dsk (-1) (-1) (-1) [] [] [] [] chs 0 = k2 now st i d d2 1 st 2 864000 dsk (-1) (-1) (-1) [] [] [] [] chs 0 := by
  unfold law37_IncidentMoves_p1
  exact moves_p1g (fun k => at_now h hst hl hn k) (fun k => at_before h hst hl k) (fun k => rcheckm h hst hl k) k1 k2

theorem moves_no {st : Int} {chs : List Chg} {a' now i to : Int} {d : List Int} {d2 : Int} (h : ChainOk 864000 0 chs a' st) (hst : 0 ≤ st ∧ st ≤ 3) (hl : chs.length ≤ 32) (hn : a' ≤ now) (k1 : law37_IncidentMoves_p2_K1 β) (k2 : law37_IncidentMoves_p2_K2 β) {y y2 y3 y4 y5 y6 y7 y8 y9 y10 y11 y12 y13 y14} :
    law37_IncidentMoves_p2 k1 k2 now st i to 9 d d2 1 st 2 864000 dsk (-1) (-1) (-1) [] [] [] [] chs 0 y y2 y3 y4 y5 y6 y7 y8 y9 y10 y11 y12 y13 y14 = k2 now st i d d2 1 st 2 864000 dsk (-1) (-1) (-1) [] [] [] [] chs 0 := by
  unfold law37_IncidentMoves_p2 law37_IncidentMoves_p2_u law37_IncidentMoves_p2_s
  refine (c_neg (p := (9 : Int) = 0) (by decide)).trans ?_
  exact moves_p1 h hst hl hn _ _

theorem moves_yes {st : Int} {chs : List Chg} {a' now i to who : Int} {d : List Int} {d2 : Int} (h : ChainOk 864000 0 chs a' st) (hst : 0 ≤ st ∧ st ≤ 3) (hl : chs.length < 32) (hn : a' ≤ now ∧ now ≤ 900000) (hto : 0 ≤ to ∧ to ≤ 3)
    (h' : ChainOk 864000 0 (chs ++ [(now, (to, who))]) now to) (k1 : law37_IncidentMoves_p2_K1 β) (k2 : law37_IncidentMoves_p2_K2 β) :
    law37_IncidentMoves_p2 k1 k2 now st i to 0 d d2 1 st 2 864000 dsk (-1) (-1) (-1) [] [] [] [] chs 0 1 to 2 864000 dsk (-1) (-1) (-1) [] [] [] [] (chs ++ [(now, (to, who))]) 0 =
      k2 now to i d d2 1 to 2 864000 dsk (-1) (-1) (-1) [] [] [] [] (chs ++ [(now, (to, who))]) 0 := by
  have hb := h.bd
  have hl' : (chs ++ [(now, (to, who))]).length ≤ 32 := by simp; omega
  have e1 : IntKind.i64.wrap (now - 1) = now - 1 := i64_in _ (by omega)
  unfold law37_IncidentMoves_p2 law37_IncidentMoves_p2_u law37_IncidentMoves_p2_s
  refine (c_pos (p := (0 : Int) = 0) rfl).trans ?_
  refine (at_t h' hto hl' now _).trans ?_
  refine (c_npos (by rw [if_neg (by omega)]; exact h'.stAt (Int.le_refl _))).trans ?_
  by_cases hlt : 864000 < now
  · refine (c_pos hlt).trans ?_
    rw [e1]
    refine (at_t h' hto hl' (now - 1) _).trans ?_
    refine (at_t h hst (by omega) (now - 1) _).trans ?_
    refine (c_npos ?_).trans ?_
    · rw [stAt_app, if_neg (show ¬ now ≤ now - 1 by omega)]
    · exact moves_p1 h' hto hl' (Int.le_refl _) _ _
  · refine (c_neg hlt).trans ?_
    exact moves_p1 h' hto hl' (Int.le_refl _) _ _

section
variable {c1 : T_incident_Move} {c2 : T_made_Dice_Next} {c3 : T_ref37_Possible} {p2 : law37_IncidentMoves_p2_T} {rec : Int → Int → Int → (List Int) → Int → Int → Int → Int → Int → (List UInt8) → Int → Int → Int → (List Int) → (List api_Task) → (List api_Update) → (List Int) → (List (Int × (Int × Int))) → Int → Option β}
  {k1 : law37_IncidentMoves_p3_K1 β} {k2 : law37_IncidentMoves_p3_K2 β} {now st i d2 : Int} {d : List Int} {chs : List Chg} {r1 to who : Int} {m1 m2 m3 : List Int × Int}

theorem mround_no (hi : 0 ≤ i ∧ i < 12) (hn : 864000 ≤ now ∧ now ≤ 900000) (b1 : 0 ≤ r1 ∧ r1 < 60)
    (h1 : ∀ k, (c2 60 (d, d2) k : Option β) = k r1 m1) (h2 : ∀ k, (c2 5 m1 k : Option β) = k to m2) (h3 : ∀ k, (c2 3 m2 k : Option β) = k who m3)
    (h4 : ∀ k, (c1 (incm st chs) (now + r1) to who k : Option β) = k zinc 9) (h5 : to ≠ 4 → ∀ k, (c3 st to k : Option β) = k false)
    (h6 : ∀ k1 k2, (p2 k1 k2 (now + r1) st i to 9 m3.1 m3.2 1 st 2 864000 dsk (-1) (-1) (-1) [] [] [] [] chs 0 0 0 0 0 [] 0 0 0 [] [] [] [] [] 0 : Option β) = k2 (now + r1) st i m3.1 m3.2 1 st 2 864000 dsk (-1) (-1) (-1) [] [] [] [] chs 0) :
    law37_IncidentMoves_p3_s c1 c2 c3 p2 rec k1 k2 now st i d d2 1 st 2 864000 dsk (-1) (-1) (-1) [] [] [] [] chs 0 = rec (now + r1) st (i + 1) m3.1 m3.2 1 st 2 864000 dsk (-1) (-1) (-1) [] [] [] [] chs 0 := by
  have e1 : IntKind.i64.wrap (now + r1) = now + r1 := i64_in _ (by omega)
  have e2 : IntKind.i64.wrap (i + 1) = i + 1 := i64_in _ (by omega)
  unfold law37_IncidentMoves_p3_s
  refine (c_pos (by omega)).trans ?_
  refine (h1 _).trans ?_
  simp only [e1]
  refine (h2 _).trans ?_
  refine (h3 _).trans ?_
  refine (h4 _).trans ?_
  by_cases ht : to = 4
  · refine (c_npos ht).trans ?_
    refine (h6 _ _).trans ?_
    simp only [e2]
  · refine (c_nneg ht).trans ?_
    refine (h5 ht _).trans ?_
    refine (h6 _ _).trans ?_
    simp only [e2]

theorem mround_yes (hi : 0 ≤ i ∧ i < 12) (hn : 864000 ≤ now ∧ now ≤ 900000) (b1 : 0 ≤ r1 ∧ r1 < 60) (ht : to ≠ 4)
    (h1 : ∀ k, (c2 60 (d, d2) k : Option β) = k r1 m1) (h2 : ∀ k, (c2 5 m1 k : Option β) = k to m2) (h3 : ∀ k, (c2 3 m2 k : Option β) = k who m3) {chs' : List Chg}
    (h4 : ∀ k, (c1 (incm st chs) (now + r1) to who k : Option β) = k (incm to chs') 0) (h5 : ∀ k, (c3 st to k : Option β) = k true)
    (h6 : ∀ k1 k2, (p2 k1 k2 (now + r1) st i to 0 m3.1 m3.2 1 st 2 864000 dsk (-1) (-1) (-1) [] [] [] [] chs 0 1 to 2 864000 dsk (-1) (-1) (-1) [] [] [] [] chs' 0 : Option β) = k2 (now + r1) to i m3.1 m3.2 1 to 2 864000 dsk (-1) (-1) (-1) [] [] [] [] chs' 0) :
    law37_IncidentMoves_p3_s c1 c2 c3 p2 rec k1 k2 now st i d d2 1 st 2 864000 dsk (-1) (-1) (-1) [] [] [] [] chs 0 = rec (now + r1) to (i + 1) m3.1 m3.2 1 to 2 864000 dsk (-1) (-1) (-1) [] [] [] [] chs' 0 := by
  have e1 : IntKind.i64.wrap (now + r1) = now + r1 := i64_in _ (by omega)
  have e2 : IntKind.i64.wrap (i + 1) = i + 1 := i64_in _ (by omega)
  unfold law37_IncidentMoves_p3_s
  refine (c_pos (by omega)).trans ?_
  refine (h1 _).trans ?_
  simp only [e1]
  refine (h2 _).trans ?_
  refine (h3 _).trans ?_
  refine (h4 _).trans ?_
  refine (c_nneg ht).trans ?_
  refine (h5 _).trans ?_
  refine (h6 _ _).trans ?_
  simp only [e2]
end
end

abbrev MSt := Int × Int × (List Int × Int) × List Chg
structure MInv (i : Nat) (s : MSt) : Prop where
  le : s.2.2.2.length ≤ i
  now : 864000 ≤ s.1 ∧ s.1 ≤ 864000 + 60 * i
  st : 0 ≤ s.2.1 ∧ s.2.1 ≤ 3
  dice : DiceOk s.2.2.1
  chain : ∃ a', a' ≤ s.1 ∧ ChainOk 864000 0 s.2.2.2 a' s.2.1

abbrev MF {β : Type} (K : law37_IncidentMoves_p3_K1 β × law37_IncidentMoves_p3_K2 β) (m : Nat) (i : Int) (s : MSt) : Option β :=
  law37_IncidentMoves_p3_n m K.1 K.2 s.1 s.2.1 i s.2.2.1.1 s.2.2.1.2 1 s.2.1 2 864000 dsk (-1) (-1) (-1) [] [] [] [] s.2.2.2 0

theorem poss_ne {st to : Int} (h : poss st to = true) : to ≠ st ∧ 0 ≤ to ∧ to ≤ 3 := by
  unfold poss at h
  have := of_decide_eq_true h
  omega

theorem mrounds (s : MSt) (h0 : MInv 0 s) : ∃ r : MSt, MInv 12 r ∧ ∀ {β : Type} (K : law37_IncidentMoves_p3_K1 β × law37_IncidentMoves_p3_K2 β), MF K fuel 0 s = K.2 r.1 r.2.1 1 r.2.1 2 864000 dsk (-1) (-1) (-1) [] [] [] [] r.2.2.2 0 := by
  refine count_loop (Kt := fun β => law37_IncidentMoves_p3_K1 β × law37_IncidentMoves_p3_K2 β) (fun {β} K m i s => MF K m i s)
    (fun {β} K r => K.2 r.1 r.2.1 1 r.2.1 2 864000 dsk (-1) (-1) (-1) [] [] [] [] r.2.2.2 0) 12 MInv (MInv 12) ?_ ?_ fuel (lt_fuel (by omega)) s h0
  · rintro i ⟨now, st, d, chs⟩ hi ⟨hle, hnow, hst, hd, a', ha', hch⟩
    simp only at hle hnow hst hd ha' hch
    obtain ⟨r1, m1, g1, g2, hd1, f1⟩ := next_ok (n := 60) hd (by omega)
    obtain ⟨to, m2, g3, g4, hd2, f2⟩ := next_ok (n := 5) hd1 (by omega)
    obtain ⟨who, m3, g5, g6, hd3, f3⟩ := next_ok (n := 3) hd2 (by omega)
    have hmv := fun {β : Type} (k : api_Incident → Int → Option β) => move_t (β := β) hch hst (by omega) (now := now + r1) (to := to) (who := who) (by omega) (by omega) (by omega) k
    left
    by_cases hp : to ≠ 4 ∧ poss st to = true
    · obtain ⟨q1, q2, q3⟩ := poss_ne hp.2
      have hch' : ChainOk 864000 0 (chs ++ [(now + r1, (to, who))]) (now + r1) to := ChainOk.append hch ⟨by show a' ≤ now + r1; omega, by show now + r1 ≤ 900000; omega⟩ ⟨q2, q3⟩ q1 ⟨by show (-1 : Int) ≤ who; omega, by show who ≤ 31; omega⟩
      refine ⟨(now + r1, to, m3, chs ++ [(now + r1, (to, who))]), ⟨by simp; omega, ⟨by show (864000 : Int) ≤ now + r1; omega, by show now + r1 ≤ 864000 + 60 * ((i + 1 : Nat) : Int); omega⟩, ⟨q2, q3⟩, hd3, now + r1, Int.le_refl _, hch'⟩, fun {β} K m => ?_⟩
      refine (law37_IncidentMoves_p3_step ..).trans ?_
      exact mround_yes (now := now) (st := st) (chs := chs) (to := to) (by omega) (by omega) (by omega) hp.1 (fun k => f1 k) (fun k => f2 k) (fun k => f3 k) (fun k => (hmv k).trans (if_pos hp)) (fun k => (rposs_t hst ⟨q2, q3⟩ k).trans (by rw [hp.2]))
        (fun k1 k2 => moves_yes hch hst (by omega) (by omega) ⟨q2, q3⟩ hch' k1 k2)
    · refine ⟨(now + r1, st, m3, chs), ⟨by show chs.length ≤ i + 1; omega, ⟨by show (864000 : Int) ≤ now + r1; omega, by show now + r1 ≤ 864000 + 60 * ((i + 1 : Nat) : Int); omega⟩, hst, hd3, a', by show a' ≤ now + r1; omega, hch⟩, fun {β} K m => ?_⟩
      refine (law37_IncidentMoves_p3_step ..).trans ?_
      refine mround_no (now := now) (st := st) (chs := chs) (to := to) (by omega) (by omega) (by omega) (fun k => f1 k) (fun k => f2 k) (fun k => f3 k) (fun k => (hmv k).trans (if_neg hp)) (fun ht k => (rposs_t hst (by omega) k).trans ?_)
        (fun k1 k2 => moves_no hch hst (by omega) (by omega) k1 k2)
      cases hq : poss st to with
      | true => exact absurd ⟨ht, hq⟩ hp
      | false => rfl
  · rintro ⟨now, st, d, chs⟩ h
    refine ⟨(now, st, d, chs), h, fun {β} K m => ?_⟩
    refine (law37_IncidentMoves_p3_step ..).trans ?_
    unfold law37_IncidentMoves_p3_s
    exact c_neg (by omega)

/-! ### Behind the end -/
abbrev late : List UInt8 := [108, 97, 116, 101]
section
variable {β : Type}
theorem add_lateg {c1 : T_incident_changeable} {c2 : T_incident_in} {c3 : T_incident_somebody} {p1 : incident_Add_p1_T} {chs : List Chg} {now : Int} {k : api_Incident → Int → Option β}
    (h1 : ∀ k, (c1 (incm 3 chs) true k : Option β) = k 9) (h2 : ∀ k, (c2 now 864000 8589934592 k : Option β) = k true) (h3 : ∀ k, (c3 1 k : Option β) = k true) :
    incident_Add_s c1 c2 c3 p1 (incm 3 chs) now 1 late k = k zinc 9 := by
  unfold incident_Add_s
  refine (h2 _).trans ?_
  refine (h3 _).trans ?_
  refine (h1 _).trans ?_
  exact c_nneg (p := (9 : Int) = 0) (by decide)

theorem add_late {chs : List Chg} {a' : Int} (h : ChainOk 864000 0 chs a' 3) (hl : chs.length ≤ 32) {now : Int} (hn : 864000 ≤ now ∧ now ≤ 900000) (k : api_Incident → Int → Option β) : incident_Add (incm 3 chs) now 1 late k = k zinc 9 := by
  unfold incident_Add
  exact add_lateg (fun k => changeablem h (by omega) hl k) (fun k => in_t (by omega)) (fun k => body_t (by omega))

theorem person_t {n : Int} {k : Bool → Option β} (h : 0 ≤ n ∧ n ≤ 31) : incident_person n k = k true := by
  simp (disch := omega) only [incident_person, incident_person_s, in_t]

theorem subscribe_late {chs : List Chg} {a' : Int} (h : ChainOk 864000 0 chs a' 3) (hl : chs.length ≤ 32) (k : api_Incident → Int → Option β) : incident_Subscribe (incm 3 chs) 3 k = k zinc 9 := by
  unfold incident_Subscribe incident_Subscribe_s
  refine (person_t (by omega)).trans ?_
  refine (changeablem h (by omega) hl _).trans ?_
  exact c_nneg (p := (9 : Int) = 0) (by decide)

theorem moves_gen {c1 : T_incident_Add} {c2 : T_incident_Open} {c3 : T_incident_Subscribe} {c4 : T_law37_sane} {c5 : T_made_Light} {c6 : T_made_Roll} {p3 : law37_IncidentMoves_p3_T} {t : List Int} {k : Bool → Option β} {now st : Int} {chs : List Chg}
    (h1 : ∀ k, (c5 t k : Option β) = k true) (h2 : ∀ k, (c6 t k : Option β) = k (t, 0)) (h3 : ∀ k, (c2 1 864000 2 dsk 0 k : Option β) = k (incm 0 []) 0)
    (h4 : ∀ k1 k2, (p3 k1 k2 864000 0 0 t 0 1 0 2 864000 dsk (-1) (-1) (-1) [] [] [] [] [] 0 : Option β) = k2 now st 1 st 2 864000 dsk (-1) (-1) (-1) [] [] [] [] chs 0)
    (h5 : st = 3 → ∀ k, (c1 (incm st chs) now 1 late k : Option β) = k zinc 9) (h6 : st = 3 → ∀ k, (c3 (incm st chs) 3 k : Option β) = k zinc 9) (h7 : ∀ k, (c4 k : Option β) = k true) :
    law37_IncidentMoves_s c1 c2 c3 c4 c5 c6 p3 t k = k true := by
  unfold law37_IncidentMoves_s
  refine (h1 _).trans ?_
  refine (h2 _).trans ?_
  refine (h3 _).trans ?_
  refine (h4 _ _).trans ?_
  by_cases hs : st = 3
  · refine (c_npos hs).trans ?_
    refine (h5 hs _).trans ?_
    refine (h6 hs _).trans ?_
    exact h7 _
  · refine (c_nneg hs).trans ?_
    exact h7 _

theorem moves_heavy {c1 : T_incident_Add} {c2 : T_incident_Open} {c3 : T_incident_Subscribe} {c4 : T_law37_sane} {c5 : T_made_Light} {c6 : T_made_Roll} {p3 : law37_IncidentMoves_p3_T} {t : List Int} {k : Bool → Option β}
    (h1 : ∀ k, (c5 t k : Option β) = k false) (h7 : ∀ k, (c4 k : Option β) = k true) : law37_IncidentMoves_s c1 c2 c3 c4 c5 c6 p3 t k = k true := by
  unfold law37_IncidentMoves_s
  exact (h1 _).trans (h7 _)

theorem incidentMoves (t : List Int) (k : Bool → Option β) : law37_IncidentMoves t k = k true := by
  unfold law37_IncidentMoves
  by_cases hl : (t.length : Int) ≤ 500
  · obtain ⟨⟨now, st, d, chs⟩, ⟨hle, hnow, hst, hd, a', ha', hch⟩, hr⟩ := mrounds (864000, 0, (t, 0), []) ⟨Nat.le_refl _, by simp, by simp, roll_ok hl, 864000, Int.le_refl _, rfl, rfl⟩
    simp only at hle hnow hst ha' hch
    have h4 : ∀ (k1 : law37_IncidentMoves_p3_K1 β) (k2 : law37_IncidentMoves_p3_K2 β), law37_IncidentMoves_p3 k1 k2 864000 0 0 t 0 1 0 2 864000 dsk (-1) (-1) (-1) [] [] [] [] [] 0 = k2 now st 1 st 2 864000 dsk (-1) (-1) (-1) [] [] [] [] chs 0 := by
      intro k1 k2
      have := hr (k1, k2)
      unfold MF at this
      unfold law37_IncidentMoves_p3
      exact this
    have h1 : ∀ k : Bool → Option β, made_Light t k = k true := fun k => (light_eq t k).trans (by rw [decide_eq_true hl])
    exact moves_gen (c1 := @incident_Add) (c2 := @incident_Open) (c3 := @incident_Subscribe) (c4 := @law37_sane) (c5 := @made_Light) (c6 := @made_Roll) (p3 := @law37_IncidentMoves_p3) h1 (fun k => roll_eq t k) (fun k => openm) h4
      (fun hs k => by subst hs; exact add_late hch (by omega) (by omega) k) (fun hs k => by subst hs; exact subscribe_late hch (by omega) k) (fun k => sane37 k)
  · exact moves_heavy (c5 := @made_Light) (c4 := @law37_sane) (fun k => (light_eq t k).trans (by rw [decide_eq_false hl])) (fun k => sane37 k)
end
end
end Go.Lift
