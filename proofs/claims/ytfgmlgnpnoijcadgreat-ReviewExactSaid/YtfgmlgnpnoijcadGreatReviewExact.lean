/- ReviewExact answers true at every input. No conditions. -/
import Derived.Test.YtfgmlgnpnoijcadGreatRows
import Derived.Test.YtfgmlgnpnoijcadGreatPart9
namespace Go.Proofs.YtfgmlgnpnoijcadGreat.reviewExact
open Go.RowKit Go.Lift
set_option maxRecDepth 100000
set_option linter.unusedVariables false

theorem own : ownKnob Tryz.prog.godebug = none := by kernel_rfl

theorem lifted (os : Os) (started : os.Started) (H : Type) (enc : TypeId × Value → H) :
    ReturnsInHanded {} Tryz.checked os 3 .any (Rows.reviewExactSpec.pre6 enc Tryz.prog Tryz.f3 Rows.reviewExactRow.domain false) (Rows.reviewExactSpec.post enc Tryz.prog Tryz.f3 false true false false) := by
  refine returnsInHanded_of_change_shaped (C := Tryz.checked) own started (by kernel_rfl) Tryz.func3
    (ChangeSpec.witness6 (enc := enc) (C := Tryz.checked) false ⟨#[], #[.slice none 0 0, .slice none 0 0, .slice none 0 0, .int .i64 0, .int .i64 0, .int .i64 0, .int .i64 0, .int .i64 0], []⟩ 8 (by kernel_rfl) (by kernel_rfl) (by kernel_rfl) (by kernel_rfl)) ?_
  intro W base args ds gs before hval hW hcnd _ hsh _
  exact Qjd (P := Tryz.prog) (tb := 4) zq1s1 rfl rfl rfl (by kernel_rfl) (by kernel_rfl) (by kernel_rfl) (by kernel_rfl) Tryz.underlying4 rfl
    (fun ds h => by
      have h : ds.length = 8 := h.trans (by kernel_rfl)
      match ds, h with
      | [d1, d2, d3, d4, d5, d6, d7, d8], _ => exact ⟨rfl, rfl, rfl⟩)
    (fun {β} x y k hw => ⟨(((true, ()), ()), ()), rfl, reviewExact _ _ _ _ _ _ _ _ _⟩) hval (Qgp hsh (by kernel_rfl) (by kernel_rfl) (by kernel_rfl)) hW

theorem over : Rows.reviewExactRow.holds Tryz.pinned (OpenSpec.ofChange Rows.reviewExactSpec) :=
  OpenClaim.holds_of_wide 3 Tryz.f3 rfl rfl rfl rfl rfl rfl rfl ⟨rfl, rfl, rfl, rfl, rfl⟩ rfl rfl rfl rfl rfl (by kernel_rfl) Tryz.func3 (by kernel_rfl)
    (of_decide_eq_true (by kernel_rfl)) (by unfold Func.isWrapper; first | (rw [if_pos (by decide +kernel)]; kernel_rfl) | (rw [if_neg (by decide +kernel)]; exact ⟨rfl, rfl⟩))
    (fun os started H enc _ => lifted os started H enc)

theorem proved : Rows.ReviewExactSaid :=
  over
#print axioms proved
end Go.Proofs.YtfgmlgnpnoijcadGreat.reviewExact

