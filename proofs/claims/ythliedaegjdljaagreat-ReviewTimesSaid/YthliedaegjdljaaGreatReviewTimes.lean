/- ReviewTimes answers true at every input. No conditions. -/
import Derived.Test.YthliedaegjdljaaGreatRows
import Derived.Test.YthliedaegjdljaaGreatPart8
namespace Go.Proofs.YthliedaegjdljaaGreat.reviewTimes
open Go.RowKit Go.Lift
set_option maxRecDepth 100000
set_option linter.unusedVariables false

theorem own : ownKnob Tryz.prog.godebug = none := by kernel_rfl

theorem lifted (os : Os) (started : os.Started) (H : Type) (enc : TypeId × Value → H) :
    ReturnsInHanded {} Tryz.checked os 3 .any (Rows.reviewTimesSpec.pre6 enc Tryz.prog Tryz.f3 Rows.reviewTimesRow.domain false) (Rows.reviewTimesSpec.post enc Tryz.prog Tryz.f3 false true false false) := by
  refine returnsInHanded_of_change_shaped (C := Tryz.checked) own started (by kernel_rfl) Tryz.func3
    (ChangeSpec.witness6 (enc := enc) (C := Tryz.checked) false ⟨#[], #[.slice none 0 0], []⟩ 8 (by kernel_rfl) (by kernel_rfl) (by kernel_rfl) (by kernel_rfl)) ?_
  intro W base args ds gs before hval hW hcnd _ hsh _
  exact law_calls (P := Tryz.prog) (tb := 4) zq213 rfl rfl rfl (by kernel_rfl) (by kernel_rfl) (by kernel_rfl) (by kernel_rfl) Tryz.underlying4 rfl
    (fun ds h => by
      have h : ds.length = 1 := h.trans (by kernel_rfl)
      match ds, h with
      | [d1], _ => exact ⟨rfl, rfl, rfl⟩)
    (fun {β} x y k hw => ⟨(((true, ()), ()), ()), rfl, reviewTimes _ _⟩) hval (opened_none hsh (by kernel_rfl) (by kernel_rfl) (by kernel_rfl)) hW

theorem over : Rows.reviewTimesRow.holds Tryz.pinned (OpenSpec.ofChange Rows.reviewTimesSpec) :=
  OpenClaim.holds_of_wide 3 Tryz.f3 rfl rfl rfl rfl rfl rfl rfl ⟨rfl, rfl, rfl, rfl, rfl⟩ rfl rfl rfl rfl rfl (by kernel_rfl) Tryz.func3 (by kernel_rfl)
    (of_decide_eq_true (by kernel_rfl)) (by unfold Func.isWrapper; first | (rw [if_pos (by decide +kernel)]; kernel_rfl) | (rw [if_neg (by decide +kernel)]; exact ⟨rfl, rfl⟩))
    (fun os started H enc _ => lifted os started H enc)

theorem proved : Rows.ReviewTimesSaid :=
  over
#print axioms proved
end Go.Proofs.YthliedaegjdljaaGreat.reviewTimes

