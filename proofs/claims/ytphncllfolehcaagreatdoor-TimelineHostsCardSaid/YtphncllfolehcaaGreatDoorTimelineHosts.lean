/- TimelineHosts answers true at every input. No conditions but the library's laid variables, as the row says. -/
import Derived.Test.YtphncllfolehcaaGreatDoorCards
import Derived.Test.YtphncllfolehcaaGreatDoorTie
import Derived.SevenTiedAt
import Derived.Test.YtphncllfolehcaaGreatDoorPart10
namespace Go.Proofs.YtphncllfolehcaaGreatDoor.timelineHosts
open Go.RowKit Go.Lift
set_option maxRecDepth 100000
set_option linter.unusedVariables false

theorem run_S (c : zqyl) {β : Type} (x : ST.dens (zqym c).params × BT.dens (zqym c).ins) (k : ST.dens (zqym c).res × BT.dens (zqym c).outs → Option β) :
    (zqym c).run x k = c x.1.1.1 (fun r0 => k (((r0, ()), ()), ())) := rfl

theorem own : ownKnob Tryz.prog.godebug = none := by kernel_rfl

theorem opened (W : World) (hsh : W.ShapedOpen Tryz.prog) (hl0 : laidMetH Tryz.prog Rows.timelineHostsRow.laid W) : Opened Tryz.prog W := by
  have hl : laidMet Tryz.prog Rows.timelineHostsRow.laid W := (MakeChecks.laidMetH_plain _ _ _ (by kernel_rfl)).mp hl0
  refine ⟨hsh, fun x hx hn => ?_, fun x hx hn => ?_, fun g hg => by cases (show none = some g from hg)⟩
  · have hx : x = ("internal/strconv.uint64pow10", .u64, Lib.pow10Tab) ∨ x = ("strings.asciiSpace", .u8, Lib.asciiSpaceTab) := by simpa [knownTabs] using hx
    rcases hx with rfl | rfl
    · exact Lib.tabIs_of_head (g := 0) (t := 165) (e := 151) (n := 20) (by kernel_rfl) (by kernel_rfl) Tryz.underlying165 Tryz.underlying151 (by kernel_rfl) (by kernel_rfl) (show laidMet _ (("internal/strconv.uint64pow10", Rows.laid_internal_strconv_uint64pow10) :: _) _ from hl.tail.tail)
    · exact absurd (show (none : Option Nat).isSome = true from hn) (by decide)
  · have hx : x = "strconv.ErrSyntax" ∨ x = "strconv.ErrRange" := by simpa [knownErrs] using hx
    rcases hx with rfl | rfl
    · exact absurd (show (none : Option Nat).isSome = true from hn) (by decide)
    · exact absurd (show (none : Option Nat).isSome = true from hn) (by decide)

set_option maxHeartbeats 4000000 in
theorem lifted (os : Os) (started : os.Started) (H : Type) (enc : TypeId × Value → H) :
    ReturnsInHanded {} Tryz.checked os 5 .any (fun w args => (Rows.timelineHostsSpec.pre enc Tryz.prog Tryz.f5 Rows.timelineHostsRow.domain false w args ∧ laidMetH Tryz.prog Rows.timelineHostsRow.laid w) ∧ sizedMet enc Tryz.prog Tryz.f5 (OpenSpec.ofChange Rows.timelineHostsSpec) false w args) (Rows.timelineHostsSpec.post enc Tryz.prog Tryz.f5 false true false false) := by
  refine handed_laid (C := Tryz.checked) own started (by kernel_rfl) Tryz.func5
    (ChangeSpec.witness_shaped (enc := enc) (C := Tryz.checked) (os := os) (X := fun w _ => laidMetH Tryz.prog Rows.timelineHostsRow.laid w) false (World.laidAll Tryz.prog os Rows.timelineHostsRow.laid) #[.slice none 0 0] 8 (World.laidAll_os _ _ _)
      (World.shaped_of_ZipB (by kernel_rfl) (by kernel_rfl)) (by kernel_rfl) (by kernel_rfl) (by kernel_rfl)
      (by rw [MakeChecks.laidMetH_plain _ _ _ (by kernel_rfl)]; exact laidMet_laidAll _ (by kernel_rfl) (by kernel_rfl))) ?_
  intro W base args ds gs before hval hW hsh hl
  exact law_calls (P := Tryz.prog) (tb := 4) zqzr rfl rfl rfl (by kernel_rfl) (by kernel_rfl) (by kernel_rfl) (by kernel_rfl) Tryz.underlying4 rfl
    (fun ds h => by
      have h : ds.length = 1 := h.trans (by kernel_rfl)
      match ds, h with
      | [d1], _ => exact ⟨rfl, rfl, rfl⟩)
    (fun {β} x y k hw => ⟨(((true, ()), ()), ()), rfl, (run_S _ _ _).trans (timelineHosts _ _)⟩) hval (opened W hsh hl) hW

theorem over : Rows.timelineHostsRow.holds Tryz.pinned (OpenSpec.ofChange Rows.timelineHostsSpec) :=
  OpenClaim.holds_of_wide 5 Tryz.f5 rfl rfl rfl rfl rfl rfl rfl ⟨rfl, rfl, rfl, rfl, rfl⟩ rfl rfl rfl rfl rfl (by kernel_rfl) Tryz.func5 (by kernel_rfl)
    (of_decide_eq_true (by kernel_rfl)) (by unfold Func.isWrapper; first | (rw [if_pos (by decide +kernel)]; kernel_rfl) | (rw [if_neg (by decide +kernel)]; exact ⟨rfl, rfl⟩))
    (fun os started H enc _ => lifted os started H enc)

theorem proved : Rows.TimelineHostsCardSaid :=
  Claim7.holds_tied_plain_at .later [] [.data, .data, .data] true (true, "f21a2613ecfd7612440ce6d58766cbe48baf25ce40f7a35d3d3c158ca919d3fe") false over (fun _ h => by cases h) (by kernel_rfl) (fun _ h => by cases h) timelineHosts_row_tie rfl ⟨rfl, rfl⟩ (by kernel_rfl) rfl
    (fun f fn hf hfn => by
      obtain rfl : f = 5 := Option.some.inj ((show Tryz.prog.funcNamed "pagewatch/pagewatchlaw41.TimelineHosts" = some 5 by kernel_rfl).symm.trans hf) |>.symm
      obtain rfl : fn = Tryz.f5 := (Option.some.inj (Tryz.func5.symm.trans hfn)).symm
      exact ⟨by kernel_rfl, fun j t ht => by
        rw [Tryz.params5] at ht
        have hm : t ∈ [22] := by simpa using Array.mem_of_getElem? ht
        have hall : ([22].all fun u => !Tryz.prog.wantsStandIn u) = true := by kernel_rfl
        exact (show Tryz.prog.wantsStandIn t = false by simpa using List.all_eq_true.1 hall t hm)⟩)
    (by kernel_rfl)
#print axioms proved
end Go.Proofs.YtphncllfolehcaaGreatDoor.timelineHosts

