/- BrokerTakes: the row. -/
import Derived.Test.YtdbdebcakemmbaaGreatDoorHxTakesL
namespace Go.Proofs.YtdbdebcakemmbaaGreatDoor
open Go Go.Hx Go.RowKit Go.ChangeShapes Go.WideShapes Go.ChangeAt Go.Lib
theorem takes_named : Tryz.pinned.checked.prog.funcNamed Rows.brokerTakesRow.func = some 8 := by kernel_rfl
theorem takes_facts : joinedFacts Tryz.pinned.checked.prog 8 Tryz.f8 (OpenSpec.ofChange Rows.brokerTakesSpec).bare Rows.brokerTakesRow = true := by kernel_rfl
theorem takes_instance : Tryz.f8.isInstance Tryz.pinned.checked.prog Rows.brokerTakesRow.origin Rows.brokerTakesRow.targs := (of_decide_eq_true (by kernel_rfl))
theorem takes_wrapper : Tryz.f8.isWrapper Tryz.pinned.checked.prog Rows.brokerTakesRow.wrapper Rows.brokerTakesRow.mainSum := (by unfold Func.isWrapper; first | (rw [if_pos (by decide +kernel)]; kernel_rfl) | (rw [if_neg (by decide +kernel)]; exact ⟨rfl, rfl⟩))
theorem takes_said : Rows.BrokerTakesSaid :=
  OpenClaim.holds_of_cond 8 Tryz.f8 rfl rfl rfl rfl rfl rfl rfl ⟨rfl, rfl, rfl, rfl, rfl⟩ rfl rfl rfl rfl rfl takes_named Tryz.func8 takes_facts takes_instance takes_wrapper
    (fun os started H enc _ F => by rw [OpenClaim.pre_eq_preRow]; exact takes_lifted os started H enc F)
end Go.Proofs.YtdbdebcakemmbaaGreatDoor
