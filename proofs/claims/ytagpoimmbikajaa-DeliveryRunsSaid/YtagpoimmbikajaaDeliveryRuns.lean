/- DeliveryRuns answers true at every input. No conditions. -/
import Derived.Test.YtagpoimmbikajaaRows
import Derived.Test.YtagpoimmbikajaaPart8
namespace Go.Proofs.Ytagpoimmbikajaa.deliveryRuns
open Go.RowKit Go.Lift
set_option maxRecDepth 100000
set_option linter.unusedVariables false

theorem own : ownKnob Try.prog.godebug = none := by kernel_rfl

theorem lifted (os : Os) (started : os.Started) (H : Type) (enc : TypeId × Value → H) :
    ReturnsInHanded {} Try.checked os 4 .any (Rows.deliveryRunsSpec.pre6 enc Try.prog Try.f4 Rows.deliveryRunsRow.domain false) (Rows.deliveryRunsSpec.post enc Try.prog Try.f4 false true false false) := by
  refine returnsInHanded_of_change_shaped (C := Try.checked) own started (by kernel_rfl) Try.func4
    (ChangeSpec.witness6 (enc := enc) (C := Try.checked) false ⟨#[], #[.slice none 0 0, .int .i64 0, .slice none 0 0], []⟩ 8 (by kernel_rfl) (by kernel_rfl) (by kernel_rfl) (by kernel_rfl)) ?_
  intro W base args ds gs before hval hW hcnd _ hsh _
  exact law_calls (P := Try.prog) (tb := 4) zqfp rfl rfl rfl (by kernel_rfl) (by kernel_rfl) (by kernel_rfl) (by kernel_rfl) Try.underlying4 rfl
    (fun ds h => by
      have h : ds.length = 3 := h.trans (by kernel_rfl)
      match ds, h with
      | [d1, d2, d3], _ => exact ⟨rfl, rfl, rfl⟩)
    (fun {β} x y k hw => ⟨(((true, ()), ()), ()), rfl, deliveryRuns _ _ (fun f hf => Nat.le_trans (hw.2.2.1.1.2 f hf).1 (by decide)) _⟩) hval (opened_none hsh (by kernel_rfl) (by kernel_rfl) (by kernel_rfl)) hW

theorem over : Rows.deliveryRunsRow.holds Try.pinned (OpenSpec.ofChange Rows.deliveryRunsSpec) :=
  OpenClaim.holds_of_wide 4 Try.f4 rfl rfl rfl rfl rfl rfl rfl ⟨rfl, rfl, rfl, rfl, rfl⟩ rfl rfl rfl rfl rfl (by kernel_rfl) Try.func4 (by kernel_rfl)
    (of_decide_eq_true (by kernel_rfl)) (by unfold Func.isWrapper; first | (rw [if_pos (by decide +kernel)]; kernel_rfl) | (rw [if_neg (by decide +kernel)]; exact ⟨rfl, rfl⟩))
    (fun os started H enc _ => lifted os started H enc)

theorem proved : Rows.DeliveryRunsSaid :=
  over
#print axioms proved
end Go.Proofs.Ytagpoimmbikajaa.deliveryRuns

