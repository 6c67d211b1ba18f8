/- OrderExact answers true at every input. No conditions. -/
import Derived.Test.YtgmdpmjhbakleabRows
import Derived.Test.YtgmdpmjhbakleabPart5
namespace Go.Proofs.Ytgmdpmjhbakleab.orderExact
open Go.RowKit Go.Lift
set_option maxRecDepth 100000
set_option linter.unusedVariables false

theorem own : ownKnob Try.prog.godebug = none := by kernel_rfl

theorem lifted (os : Os) (started : os.Started) (H : Type) (enc : TypeId × Value → H) :
    ReturnsInHanded {} Try.checked os 3 .any (Rows.orderExactSpec.pre6 enc Try.prog Try.f3 Rows.orderExactRow.domain false) (Rows.orderExactSpec.post enc Try.prog Try.f3 false true false false) := by
  refine returnsInHanded_of_change (C := Try.checked) own started (by kernel_rfl) Try.func3
    (ChangeSpec.witness6 (enc := enc) (C := Try.checked) false ⟨#[], #[.slice none 0 0, .agg #[.slice none 0 0, .slice none 0 0, .slice none 0 0, .slice none 0 0], .int .i64 0, .int .i64 0, .slice none 0 0], []⟩ 8 (by kernel_rfl) (by kernel_rfl) (by kernel_rfl) (by kernel_rfl)) ?_
  intro W base args ds gs before hval hW hcnd _
  exact law_calls (P := Try.prog) (tb := 4) zq14g rfl rfl rfl (by kernel_rfl) (by kernel_rfl) (by kernel_rfl) (by kernel_rfl) Try.underlying4 rfl
    (fun ds h => by
      have h : ds.length = 5 := h.trans (by kernel_rfl)
      match ds, h with
      | [d1, d2, d3, d4, d5], _ => exact ⟨rfl, rfl, rfl⟩)
    (fun {β} x y k hw => ⟨(((true, ()), ()), ()), rfl, orderExact (Nat.le_trans hw.2.1.1.2.2.1.1 (by decide)) _ _ _ _⟩) hval hW

theorem over : Rows.orderExactRow.holds Try.pinned (OpenSpec.ofChange Rows.orderExactSpec) :=
  OpenClaim.holds_of_wide 3 Try.f3 rfl rfl rfl rfl rfl rfl rfl ⟨rfl, rfl, rfl, rfl, rfl⟩ rfl rfl rfl rfl rfl (by kernel_rfl) Try.func3 (by kernel_rfl)
    (of_decide_eq_true (by kernel_rfl)) (by unfold Func.isWrapper; first | (rw [if_pos (by decide +kernel)]; kernel_rfl) | (rw [if_neg (by decide +kernel)]; exact ⟨rfl, rfl⟩))
    (fun os started H enc _ => lifted os started H enc)

theorem proved : Rows.OrderExactSaid :=
  over
#print axioms proved
end Go.Proofs.Ytgmdpmjhbakleab.orderExact

