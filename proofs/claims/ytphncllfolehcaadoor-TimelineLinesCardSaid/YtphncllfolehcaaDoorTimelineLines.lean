/- TimelineLines answers true at every input. No conditions but the library's laid variables, as the row says. -/
import Derived.Test.YtphncllfolehcaaDoorCards
import Derived.Test.YtphncllfolehcaaDoorTie
import Derived.SevenTiedAt
import Derived.Test.YtphncllfolehcaaDoorPart10
namespace Go.Proofs.YtphncllfolehcaaDoor.timelineLines
open Go.RowKit Go.Lift
set_option maxRecDepth 100000
set_option linter.unusedVariables false

theorem run_S (c : zqnf) {β : Type} (x : ST.dens (zqng c).params × BT.dens (zqng c).ins) (k : ST.dens (zqng c).res × BT.dens (zqng c).outs → Option β) :
    (zqng c).run x k = c x.1.1.1 (fun r0 => k (((r0, ()), ()), ())) := rfl

theorem own : ownKnob Tryd.prog.godebug = none := by kernel_rfl

theorem opened (W : World) (hsh : W.ShapedOpen Tryd.prog) (hl0 : laidMetH Tryd.prog Rows.timelineLinesRow.laid W) : Opened Tryd.prog W := by
  have hl : laidMet Tryd.prog Rows.timelineLinesRow.laid W := (MakeChecks.laidMetH_plain _ _ _ (by kernel_rfl)).mp hl0
  refine ⟨hsh, fun x hx hn => ?_, fun x hx hn => ?_, fun g hg => by cases (show none = some g from hg)⟩
  · have hx : x = ("internal/strconv.uint64pow10", .u64, Lib.pow10Tab) ∨ x = ("strings.asciiSpace", .u8, Lib.asciiSpaceTab) := by simpa [knownTabs] using hx
    rcases hx with rfl | rfl
    · exact Lib.tabIs_of_head (g := 0) (t := 159) (e := 138) (n := 20) (by kernel_rfl) (by kernel_rfl) Tryd.underlying159 Tryd.underlying138 (by kernel_rfl) (by kernel_rfl) (show laidMet _ (("internal/strconv.uint64pow10", Rows.laid_internal_strconv_uint64pow10) :: _) _ from hl.tail.tail)
    · exact absurd (show (none : Option Nat).isSome = true from hn) (by decide)
  · have hx : x = "strconv.ErrSyntax" ∨ x = "strconv.ErrRange" := by simpa [knownErrs] using hx
    rcases hx with rfl | rfl
    · exact absurd (show (none : Option Nat).isSome = true from hn) (by decide)
    · exact absurd (show (none : Option Nat).isSome = true from hn) (by decide)

set_option maxHeartbeats 4000000 in
theorem lifted (os : Os) (started : os.Started) (H : Type) (enc : TypeId × Value → H) :
    ReturnsInHanded {} Tryd.checked os 3 .any (fun w args => (Rows.timelineLinesSpec.pre enc Tryd.prog Tryd.f3 Rows.timelineLinesRow.domain false w args ∧ laidMetH Tryd.prog Rows.timelineLinesRow.laid w) ∧ sizedMet enc Tryd.prog Tryd.f3 (OpenSpec.ofChange Rows.timelineLinesSpec) false w args) (Rows.timelineLinesSpec.post enc Tryd.prog Tryd.f3 false true false false) := by
  refine handed_laid (C := Tryd.checked) own started (by kernel_rfl) Tryd.func3
    (ChangeSpec.witness_shaped (enc := enc) (C := Tryd.checked) (os := os) (X := fun w _ => laidMetH Tryd.prog Rows.timelineLinesRow.laid w) false (World.laidAll Tryd.prog os Rows.timelineLinesRow.laid) #[.slice none 0 0] 8 (World.laidAll_os _ _ _)
      (World.shaped_of_ZipB (by kernel_rfl) (by kernel_rfl)) (by kernel_rfl) (by kernel_rfl) (by kernel_rfl)
      (by rw [MakeChecks.laidMetH_plain _ _ _ (by kernel_rfl)]; exact laidMet_laidAll _ (by kernel_rfl) (by kernel_rfl))) ?_
  intro W base args ds gs before hval hW hsh hl
  exact law_calls (P := Tryd.prog) (tb := 4) zqoi rfl rfl rfl (by kernel_rfl) (by kernel_rfl) (by kernel_rfl) (by kernel_rfl) Tryd.underlying4 rfl
    (fun ds h => by
      have h : ds.length = 1 := h.trans (by kernel_rfl)
      match ds, h with
      | [d1], _ => exact ⟨rfl, rfl, rfl⟩)
    (fun {β} x y k hw => ⟨(((true, ()), ()), ()), rfl, (run_S _ _ _).trans (timelineLines _ _)⟩) hval (opened W hsh hl) hW

theorem over : Rows.timelineLinesRow.holds Tryd.pinned (OpenSpec.ofChange Rows.timelineLinesSpec) :=
  OpenClaim.holds_of_wide 3 Tryd.f3 rfl rfl rfl rfl rfl rfl rfl ⟨rfl, rfl, rfl, rfl, rfl⟩ rfl rfl rfl rfl rfl (by kernel_rfl) Tryd.func3 (by kernel_rfl)
    (of_decide_eq_true (by kernel_rfl)) (by unfold Func.isWrapper; first | (rw [if_pos (by decide +kernel)]; kernel_rfl) | (rw [if_neg (by decide +kernel)]; exact ⟨rfl, rfl⟩))
    (fun os started H enc _ => lifted os started H enc)

theorem proved : Rows.TimelineLinesCardSaid :=
  Claim7.holds_tied_plain_at .later [] [.data, .data, .data] true (true, "15ada414adacd853ca96e2d935e873e1bfe06b9e94a782880ba0f9163006d68c") false over (fun _ h => by cases h) (by kernel_rfl) (fun _ h => by cases h) timelineLines_row_tie rfl ⟨rfl, rfl⟩ (by kernel_rfl) rfl
    (fun f fn hf hfn => by
      obtain rfl : f = 3 := Option.some.inj ((show Tryd.prog.funcNamed "pagewatch/pagewatchlaw41.TimelineLines" = some 3 by kernel_rfl).symm.trans hf) |>.symm
      obtain rfl : fn = Tryd.f3 := (Option.some.inj (Tryd.func3.symm.trans hfn)).symm
      exact ⟨by kernel_rfl, fun j t ht => by
        rw [Tryd.params3] at ht
        have hm : t ∈ [22] := by simpa using Array.mem_of_getElem? ht
        have hall : ([22].all fun u => !Tryd.prog.wantsStandIn u) = true := by kernel_rfl
        exact (show Tryd.prog.wantsStandIn t = false by simpa using List.all_eq_true.1 hall t hm)⟩)
    (by kernel_rfl)
#print axioms proved
end Go.Proofs.YtphncllfolehcaaDoor.timelineLines

