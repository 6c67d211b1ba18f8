/- RatioTexts answers true at every input. No conditions but the library's laid variables, as the row says. -/
import Derived.Test.YtaecjejknbbndaaDoorCards
import Derived.Test.YtaecjejknbbndaaDoorTie
import Derived.SevenTiedAt
import Derived.Test.YtaecjejknbbndaaDoorPart6
namespace Go.Proofs.YtaecjejknbbndaaDoor.ratioTexts
open Go.RowKit Go.Lift
set_option maxRecDepth 100000
set_option linter.unusedVariables false

theorem run_S (c : zq7e) {β : Type} (x : ST.dens (zq7f c).params × BT.dens (zq7f c).ins) (k : ST.dens (zq7f c).res × BT.dens (zq7f c).outs → Option β) :
    (zq7f c).run x k = c x.1.1.1 x.1.2.1.1 x.1.2.2.1.1 (fun r0 => k (((r0, ()), ()), ())) := rfl

theorem own : ownKnob Tryd.prog.godebug = none := by kernel_rfl

theorem opened (W : World) (hsh : W.ShapedOpen Tryd.prog) (hl0 : laidMetH Tryd.prog Rows.ratioTextsRow.laid W) : Opened Tryd.prog W := by
  have hl : laidMet Tryd.prog Rows.ratioTextsRow.laid W := (MakeChecks.laidMetH_plain _ _ _ (by kernel_rfl)).mp hl0
  refine ⟨hsh, fun x hx _ => ?_, fun x hx _ => ?_⟩
  · have hx : x = ("internal/strconv.uint64pow10", .u64, Lib.pow10Tab) := by simpa [knownTabs] using hx
    subst hx
    exact Lib.tabIs_of_head (g := 3) (t := 82) (e := 55) (n := 20) (by kernel_rfl) (by kernel_rfl) Tryd.underlying82 Tryd.underlying55 (by kernel_rfl) (by kernel_rfl) (show laidMet _ (("internal/strconv.uint64pow10", Rows.laid_internal_strconv_uint64pow10) :: _) _ from hl.tail.tail)
  · have hx : x = "strconv.ErrSyntax" ∨ x = "strconv.ErrRange" := by simpa [knownErrs] using hx
    rcases hx with rfl | rfl
    · exact laid_err (g := 1) (ti := 46) (by kernel_rfl) (by kernel_rfl) Tryd.underlying46 hl.tail.tail.tail.tail
    · exact laid_err (g := 2) (ti := 46) (by kernel_rfl) (by kernel_rfl) Tryd.underlying46 hl.tail.tail.tail

set_option maxHeartbeats 4000000 in
theorem lifted (os : Os) (started : os.Started) (H : Type) (enc : TypeId × Value → H) :
    ReturnsInHanded {} Tryd.checked os 3 .any (fun w args => (Rows.ratioTextsSpec.pre enc Tryd.prog Tryd.f3 Rows.ratioTextsRow.domain false w args ∧ laidMetH Tryd.prog Rows.ratioTextsRow.laid w) ∧ sizedMet enc Tryd.prog Tryd.f3 (OpenSpec.ofChange Rows.ratioTextsSpec) false w args) (Rows.ratioTextsSpec.post enc Tryd.prog Tryd.f3 false true false false) := by
  refine handed_laid (C := Tryd.checked) own started (by kernel_rfl) Tryd.func3
    (ChangeSpec.witness_shaped (enc := enc) (C := Tryd.checked) (os := os) (X := fun w _ => laidMetH Tryd.prog Rows.ratioTextsRow.laid w) false (World.laidAll Tryd.prog os Rows.ratioTextsRow.laid) #[.string ⟨#[]⟩, .int .i64 0, .int .i64 0] 8 (World.laidAll_os _ _ _)
      (World.shaped_of_ZipB (by kernel_rfl) (by kernel_rfl)) (by kernel_rfl) (by kernel_rfl) (by kernel_rfl)
      (by rw [MakeChecks.laidMetH_plain _ _ _ (by kernel_rfl)]; exact laidMet_laidAll _ (by kernel_rfl) (by kernel_rfl))) ?_
  intro W base args ds gs before hval hW hsh hl
  exact law_calls (P := Tryd.prog) (tb := 4) zq7w rfl rfl rfl (by kernel_rfl) (by kernel_rfl) (by kernel_rfl) (by kernel_rfl) Tryd.underlying4 rfl
    (fun ds h => by
      have h : ds.length = 3 := h.trans (by kernel_rfl)
      match ds, h with
      | [d1, d2, d3], _ => exact ⟨rfl, rfl, rfl⟩)
    (fun {β} x y k hw => ⟨(((true, ()), ()), ()), rfl, (run_S _ _ _).trans (law_texts _ _ _ _)⟩) hval (opened W hsh hl) hW

theorem over : Rows.ratioTextsRow.holds Tryd.pinned (OpenSpec.ofChange Rows.ratioTextsSpec) :=
  OpenClaim.holds_of_wide 3 Tryd.f3 rfl rfl rfl rfl rfl rfl rfl ⟨rfl, rfl, rfl, rfl, rfl⟩ rfl rfl rfl rfl rfl (by kernel_rfl) Tryd.func3 (by kernel_rfl)
    (of_decide_eq_true (by kernel_rfl)) (by unfold Func.isWrapper; first | (rw [if_pos (by decide +kernel)]; kernel_rfl) | (rw [if_neg (by decide +kernel)]; exact ⟨rfl, rfl⟩))
    (fun os started H enc _ => lifted os started H enc)

theorem proved : Rows.RatioTextsCardSaid :=
  Claim7.holds_tied_plain_at .later [] [.data, .data, .data, .sentinel, .sentinel] true (true, "05eba6d3514e16f56f497d7c759955fe339eb06d7872db5d44d1dd0f963400ec") true over (fun _ h => by cases h) (by kernel_rfl) (fun _ h => by cases h) ratioTexts_row_tie rfl ⟨rfl, rfl⟩ (by kernel_rfl) rfl
    (fun f fn hf hfn => by
      obtain rfl : f = 3 := Option.some.inj ((show Tryd.prog.funcNamed "pagewatch/pagewatchlaw02.RatioTexts" = some 3 by kernel_rfl).symm.trans hf) |>.symm
      obtain rfl : fn = Tryd.f3 := (Option.some.inj (Tryd.func3.symm.trans hfn)).symm
      exact ⟨by kernel_rfl, fun j t ht => by
        rw [Tryd.params3] at ht
        have hm : t ∈ [9, 3, 3] := by simpa using Array.mem_of_getElem? ht
        have hall : ([9, 3, 3].all fun u => !Tryd.prog.wantsStandIn u) = true := by kernel_rfl
        exact (show Tryd.prog.wantsStandIn t = false by simpa using List.all_eq_true.1 hall t hm)⟩)
    (by kernel_rfl)
#print axioms proved
end Go.Proofs.YtaecjejknbbndaaDoor.ratioTexts

