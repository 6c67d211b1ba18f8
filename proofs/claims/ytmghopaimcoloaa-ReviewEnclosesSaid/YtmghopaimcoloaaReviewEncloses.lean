/- ReviewEncloses answers true at every input. No conditions. -/
import Derived.Test.YtmghopaimcoloaaRows
import Derived.Test.YtmghopaimcoloaaLiftX
import Derived.Test.YtmghopaimcoloaaLEncloses2
namespace Go.Proofs.Ytmghopaimcoloaa.reviewEncloses
open Go.RowKit Go.Lift
set_option maxRecDepth 100000
set_option linter.unusedVariables false

theorem own : ownKnob Try.prog.godebug = none := by kernel_rfl

theorem lifted (os : Os) (started : os.Started) (H : Type) (enc : TypeId × Value → H) :
    ReturnsInHanded {} Try.checked os 5 .any (Rows.reviewEnclosesSpec.pre6 enc Try.prog Try.f5 Rows.reviewEnclosesRow.domain false) (Rows.reviewEnclosesSpec.post enc Try.prog Try.f5 false true false false) := by
  refine returnsInHanded_of_change (C := Try.checked) own started (by kernel_rfl) Try.func5
    (ChangeSpec.witness6 (enc := enc) (C := Try.checked) false ⟨#[], #[.slice none 0 0, .int .u8 0, .int .u8 0], []⟩ 8 (by kernel_rfl) (by kernel_rfl) (by kernel_rfl) (by kernel_rfl)) ?_
  intro W base args ds gs before hval hW hcnd _
  exact law_calls (P := Try.prog) (tb := 4) law42_ReviewEncloses_ok rfl rfl rfl (by kernel_rfl) (by kernel_rfl) (by kernel_rfl) (by kernel_rfl) Try.underlying4 rfl
    (fun ds h => by
      have h : ds.length = 3 := h.trans (by kernel_rfl)
      match ds, h with
      | [d1, d2, d3], _ => exact ⟨rfl, rfl, rfl⟩)
    (fun {β} x y k hw => ⟨(((true, ()), ()), ()), rfl, reviewEncloses _ (wf_u8 hw.2.1.1) (wf_u8 hw.2.2.1.1) _⟩) hval hW

theorem over : Rows.reviewEnclosesRow.holds Try.pinned (OpenSpec.ofChange Rows.reviewEnclosesSpec) :=
  OpenClaim.holds_of_wide 5 Try.f5 rfl rfl rfl rfl rfl rfl rfl ⟨rfl, rfl, rfl, rfl, rfl⟩ rfl rfl rfl rfl rfl (by kernel_rfl) Try.func5 (by kernel_rfl)
    (of_decide_eq_true (by kernel_rfl)) (by unfold Func.isWrapper; first | (rw [if_pos (by decide +kernel)]; kernel_rfl) | (rw [if_neg (by decide +kernel)]; exact ⟨rfl, rfl⟩))
    (fun os started H enc _ => lifted os started H enc)

theorem proved : Rows.ReviewEnclosesSaid :=
  over
#print axioms proved
end Go.Proofs.Ytmghopaimcoloaa.reviewEncloses
