/- PrintSame answers true at every input. No conditions but the library's laid variables, as the row says. -/
import Derived.Test.YtdcedhfkcehcmaaGreatDoorCards
import Derived.Test.YtdcedhfkcehcmaaGreatDoorTie
import Derived.SevenTiedAt
import Derived.Lib.LaidU8
import Derived.Test.YtdcedhfkcehcmaaGreatDoorPart11
namespace Go.Proofs.YtdcedhfkcehcmaaGreatDoor.printSame
open Go.RowKit Go.Lift
set_option maxRecDepth 100000
set_option linter.unusedVariables false

theorem whiteAt_of {g : Nat} {w : World} (h : Lib.WhiteTab g w) : Q9v g w := by
  obtain ⟨T, oT, R, oR, a, b, c, d, e⟩ := h
  refine ⟨T, oT, R, oR, fun i v hv => ?_, fun i v hv => ?_, fun i v hv => ?_⟩
  · match i, hv with
    | 0, hv => cases hv; exact a
    | i + 1, hv => cases hv
  · match i, hv with
    | 0, hv => cases hv; exact b
    | 1, hv => cases hv; exact c
    | 2, hv => cases hv; exact d
    | i + 3, hv => cases hv
  · rw [List.getElem?_map] at hv
    obtain ⟨z, hz, rfl⟩ := Option.map_eq_some_iff.1 hv
    have hl : i < Lib.whiteT.length := (List.getElem?_eq_some_iff.1 hz).1
    have := e i hl
    rw [List.getD_eq_getElem?_getD, hz] at this
    exact this

theorem own : ownKnob Tryz.prog.godebug = none := by kernel_rfl

theorem opened (W : World) (hsh : W.ShapedOpen Tryz.prog) (hl0 : laidMetH Tryz.prog Rows.printSameRow.laid W) : Opened Tryz.prog W := by
  have hl : laidMet Tryz.prog Rows.printSameRow.laid W := (MakeChecks.laidMetH_plain _ _ _ (by kernel_rfl)).mp hl0
  refine ⟨hsh, fun x hx hn => ?_, fun x hx hn => ?_, fun g hg => ?_⟩
  · have hx : x = ("internal/strconv.uint64pow10", .u64, Lib.pow10Tab) ∨ x = ("strings.asciiSpace", .u8, Lib.asciiSpaceTab) := by simpa [Q4x] using hx
    rcases hx with rfl | rfl
    · exact Lib.tabIs_of_head (g := 7) (t := 322) (e := 306) (n := 20) (by kernel_rfl) (by kernel_rfl) Tryz.underlying322 Tryz.underlying306 (by kernel_rfl) (by kernel_rfl) (show laidMet _ (("internal/strconv.uint64pow10", Rows.laid_internal_strconv_uint64pow10) :: _) _ from hl.tail.tail)
    · exact Lib.tabIs_of_head (g := 0) (t := 186) (e := 5) (n := 256) (by kernel_rfl) (by kernel_rfl) Tryz.underlying186 Tryz.underlying5 (by kernel_rfl) (by kernel_rfl) (show laidMet _ (("strings.asciiSpace", Rows.laid_strings_asciiSpace) :: _) _ from hl.tail.tail.tail.tail.tail.tail.tail)
  · have hx : x = "strconv.ErrSyntax" ∨ x = "strconv.ErrRange" := by simpa [Q4y] using hx
    rcases hx with rfl | rfl
    · exact Qfx (g := 5) (ti := 134) (by kernel_rfl) (by kernel_rfl) Tryz.underlying134 hl.tail.tail.tail.tail.tail
    · exact Qfx (g := 6) (ti := 134) (by kernel_rfl) (by kernel_rfl) Tryz.underlying134 hl.tail.tail.tail.tail
  · have hr : Lib.VarReads Tryz.prog W "unicode.White_Space" Lib.whiteData := Lib.laidMet.reads hl (.tail _ (.tail _ (.tail _ (.tail _ (.tail _ (.tail _ (.head _)))))))
    have h2 := whiteTab_of_reads { @zq6o ⟨0⟩ with } ⟨by kernel_rfl, by kernel_rfl, by kernel_rfl, by kernel_rfl, by kernel_rfl, by kernel_rfl, by kernel_rfl, by kernel_rfl⟩ hr
    obtain rfl : zq6n.g 6 = g := Option.some.inj ((show Tryz.prog.globalNamed "unicode.White_Space" = some (zq6n.g 6) by kernel_rfl).symm.trans hg)
    exact whiteAt_of h2

set_option maxHeartbeats 4000000 in
theorem lifted [Sl] (F : Q8a) (os : Os) (started : os.Started) (H : Type) (enc : TypeId × Value → H) :
    ReturnsInHanded {} Tryz.checked os 3 .any (fun w args => (Rows.printSameSpec.pre enc Tryz.prog Tryz.f3 Rows.printSameRow.domain false w args ∧ laidMetH Tryz.prog Rows.printSameRow.laid w) ∧ sizedMet enc Tryz.prog Tryz.f3 (OpenSpec.ofChange Rows.printSameSpec) false w args) (Rows.printSameSpec.post enc Tryz.prog Tryz.f3 false true false false) := by
  refine Qh0 (C := Tryz.checked) own started (by kernel_rfl) Tryz.func3
    (ChangeSpec.witness_shaped (enc := enc) (C := Tryz.checked) (os := os) (X := fun w _ => laidMetH Tryz.prog Rows.printSameRow.laid w) false (World.laidAll Tryz.prog os Rows.printSameRow.laid) #[.slice none 0 0, .agg #[.slice none 0 0, .slice none 0 0, .slice none 0 0, .slice none 0 0], .agg #[.slice none 0 0, .slice none 0 0, .slice none 0 0, .slice none 0 0]] 8 (World.laidAll_os _ _ _)
      (World.shaped_of_ZipB (by kernel_rfl) (by kernel_rfl)) (by kernel_rfl) (by kernel_rfl) (by kernel_rfl)
      (by rw [MakeChecks.laidMetH_plain _ _ _ (by kernel_rfl)]; exact laidMet_laidAll _ (by kernel_rfl) (by kernel_rfl))) ?_
  intro W base args ds gs before hval hW hsh hl
  exact Qjg (P := Tryz.prog) (tb := 4) zqsn rfl rfl rfl (by kernel_rfl) (by kernel_rfl) (by kernel_rfl) (by kernel_rfl) Tryz.underlying4 rfl
    (fun ds h => by
      have h : ds.length = 3 := h.trans (by kernel_rfl)
      match ds, h with
      | [d1, d2, d3], _ => exact ⟨rfl, rfl, rfl⟩)
    (fun {β} x y k hw => ⟨(((true, ()), ()), ()), rfl, printSame F _ _ _ (Ql0 hw.2.1.1) _⟩) hval (opened W hsh hl) hW

theorem j0 : (Rows.printSameRow.wf (OpenSpec.ofChange Rows.printSameSpec)) = true := by kernel_rfl
theorem j1 : (laidOutB Tryz.prog) = true := by kernel_rfl
theorem j2 : (mapsRowed Tryz.prog) = true := by kernel_rfl
theorem j3 : (Tryz.f3.params.all (Tryz.prog.readableRec ·)) = true := by kernel_rfl
theorem j4 : (namedTie Tryz.prog Rows.printSameRow.named Rows.printSameSpec.vars) = true := by kernel_rfl
theorem j5 : ((Rows.printSameRow.stops == [])) = true := by kernel_rfl
theorem j6 : ((Tryz.prog.stops == [])) = true := by kernel_rfl
theorem j7 : ((Rows.printSameRow.knobs == [])) = true := by kernel_rfl
theorem j8 : ((Tryz.prog.stopKnobs == [])) = true := by kernel_rfl
theorem j9 : ((Rows.printSameRow.inPlace == Tryz.prog.inPlace 3)) = true := by kernel_rfl
theorem j10 : ((Rows.printSameRow.unfollowed == Tryz.prog.unfollowed 3)) = true := by kernel_rfl
theorem j11 : ((Rows.printSameRow.recurses == Tryz.prog.recurses 3)) = true := by kernel_rfl
theorem j12 : ((Rows.printSameRow.named == Tryz.prog.varsNamed 3)) = true := by kernel_rfl
theorem j13 : ((Rows.printSameRow.maps == (Tryz.f3.params.toList ++ Rows.printSameSpec.plain.varTypes Tryz.prog).any (Tryz.prog.mapsRec ·))) = true := by kernel_rfl
theorem j14 : ((Rows.printSameRow.ifaces == (Tryz.f3.params.toList ++ Rows.printSameSpec.plain.varTypes Tryz.prog).any (Tryz.prog.ifacesRec ·))) = true := by kernel_rfl
theorem j15 : ((Rows.printSameRow.mapsOut == Tryz.prog.mapsAmong Tryz.f3.resultTypes.toList)) = true := by kernel_rfl
theorem j16 : ((Rows.printSameRow.loops == (Tryz.f3.params.toList ++ Rows.printSameSpec.plain.varTypes Tryz.prog).any (Tryz.prog.loopsFrom ·))) = true := by kernel_rfl
theorem j17 : ((Rows.printSameRow.wideKeys == (Tryz.f3.params.toList ++ Rows.printSameSpec.plain.varTypes Tryz.prog ++ Tryz.f3.resultTypes.toList).any (Tryz.prog.wideKeysFrom ·))) = true := by kernel_rfl
theorem j18 : (Rows.printSameSpec.vars.all (Tryz.prog.varReadable ·)) = true := by kernel_rfl
theorem j19 : (Tryz.f3.resultTypes.all (fun t => Tryz.prog.readableRec t && decide (t < Tryz.prog.types.size))) = true := by kernel_rfl
theorem j20 : ((Rows.printSameRow.ifacesOut == Tryz.f3.resultTypes.toList.any (Tryz.prog.ifacesRec ·))) = true := by kernel_rfl
theorem j21 : ((Rows.printSameRow.loopsOut == Tryz.f3.resultTypes.toList.any (Tryz.prog.loopsFrom ·))) = true := by kernel_rfl
theorem j22 : ((Rows.printSameRow.plainKeys == Tryz.prog.plainKeys)) = true := by kernel_rfl
theorem j23 : (Rows.printSameRow.shortTexts.isNone) = true := by kernel_rfl
theorem j24 : (Tryz.prog.stopsHeard) = true := by kernel_rfl
theorem j25 : (Tryz.prog.mayEnter) = true := by kernel_rfl
theorem j26 : ((Rows.printSameRow.lifted == Tryz.prog.liftsFinal)) = true := by kernel_rfl
theorem j27 : ((Tryz.prog.make == some Rows.printSameRow.make)) = true := by kernel_rfl
theorem j28 : ((Rows.printSameRow.kinds == (if Rows.printSameRow.domain.isEmpty then [] else Tryz.f3.params.toList.map fun t => match Tryz.prog.underlying t with | some (.int k) => some k | _ => none))) = true := by kernel_rfl
theorem j29 : ((Rows.printSameRow.pinned == Rows.printSameRow.pinnedBy)) = true := by kernel_rfl
theorem j30 : ((Rows.printSameRow.veiled == (Tryz.f3.params.toList ++ Rows.printSameSpec.plain.varTypes Tryz.prog ++ Tryz.f3.resultTypes.toList).any (Tryz.prog.veiledRec ·))) = true := by kernel_rfl
theorem j31 : (Rows.printSameRow.veiledFits Tryz.prog Tryz.f3.params.toList (Tryz.f3.params.toList ++ Rows.printSameSpec.plain.varTypes Tryz.prog ++ Tryz.f3.resultTypes.toList)) = true := by kernel_rfl
theorem andI {a b : Bool} (h : a = true) (k : b = true) : (a && b) = true := by rw [h, k]; rfl
theorem jall : joinedFacts Tryz.prog 3 Tryz.f3 Rows.printSameSpec Rows.printSameRow = true := (andI (andI (andI (andI (andI (andI (andI (andI (andI (andI (andI (andI (andI (andI (andI (andI (andI (andI (andI (andI (andI (andI (andI (andI (andI (andI (andI (andI (andI (andI (andI j0 j1) j2) j3) j4) j5) j6) j7) j8) j9) j10) j11) j12) j13) j14) j15) j16) j17) j18) j19) j20) j21) j22) j23) j24) j25) j26) j27) j28) j29) j30) j31)

theorem over : Rows.printSameRow.holds Tryz.pinned (OpenSpec.ofChange Rows.printSameSpec) :=
  OpenClaim.holds_of_wide 3 Tryz.f3 rfl rfl rfl rfl rfl rfl rfl ⟨rfl, rfl, rfl, rfl, rfl⟩ rfl rfl rfl rfl rfl (by kernel_rfl) Tryz.func3 jall
    (of_decide_eq_true (by kernel_rfl)) (by unfold Func.isWrapper; first | (rw [if_pos (by decide +kernel)]; kernel_rfl) | (rw [if_neg (by decide +kernel)]; exact ⟨rfl, rfl⟩))
    (fun os started H enc _ => (@lifted ⟨0⟩ Qiu) os started H enc)

theorem proved : Rows.PrintSameCardSaid :=
  Claim7.holds_tied_plain_at .later [] [.data, .data, .data, .data, .sentinel, .sentinel, .listed, .data, .pinned] true (true, "6cb7eeac7017869b269dd3bc1d06505da1fafef820d4f9f47d32b81e88318b8f") true over (fun _ h => by cases h) (by kernel_rfl) (fun _ h => by cases h) printSame_row_tie rfl ⟨rfl, rfl⟩ (by kernel_rfl) rfl
    (fun f fn hf hfn => by
      obtain rfl : f = 3 := Option.some.inj ((show Tryz.prog.funcNamed "pagewatch/pagewatchlaw09.PrintSame" = some 3 by kernel_rfl).symm.trans hf) |>.symm
      obtain rfl : fn = Tryz.f3 := (Option.some.inj (Tryz.func3.symm.trans hfn)).symm
      exact ⟨by kernel_rfl, fun j t ht => by
        rw [Tryz.params3] at ht
        have hm : t ∈ [22, 28, 28] := by simpa using Array.mem_of_getElem? ht
        have hall : ([22, 28, 28].all fun u => !Tryz.prog.wantsStandIn u) = true := by kernel_rfl
        exact (show Tryz.prog.wantsStandIn t = false by simpa using List.all_eq_true.1 hall t hm)⟩)
    (by kernel_rfl)
#print axioms proved
end Go.Proofs.YtdcedhfkcehcmaaGreatDoor.printSame

