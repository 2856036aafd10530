/- BrokerKeeps: the row. -/
import Derived.Test.YtdbdebcakemmbaaGreatDoorHxKeepL
namespace Go.Proofs.YtdbdebcakemmbaaGreatDoor
open Go Go.Hx Go.RowKit Go.ChangeShapes Go.WideShapes Go.ChangeAt Go.Lib
theorem keep_named : Tryz.pinned.checked.prog.funcNamed Rows.brokerKeepsRow.func = some 6 := by kernel_rfl
theorem keep_facts : joinedFacts Tryz.pinned.checked.prog 6 Tryz.f6 (OpenSpec.ofChange Rows.brokerKeepsSpec).bare Rows.brokerKeepsRow = true := by kernel_rfl
theorem keep_instance : Tryz.f6.isInstance Tryz.pinned.checked.prog Rows.brokerKeepsRow.origin Rows.brokerKeepsRow.targs := (of_decide_eq_true (by kernel_rfl))
theorem keep_wrapper : Tryz.f6.isWrapper Tryz.pinned.checked.prog Rows.brokerKeepsRow.wrapper Rows.brokerKeepsRow.mainSum := (by unfold Func.isWrapper; first | (rw [if_pos (by decide +kernel)]; kernel_rfl) | (rw [if_neg (by decide +kernel)]; exact ⟨rfl, rfl⟩))
theorem keep_said : Rows.BrokerKeepsSaid :=
  OpenClaim.holds_of_cond 6 Tryz.f6 rfl rfl rfl rfl rfl rfl rfl ⟨rfl, rfl, rfl, rfl, rfl⟩ rfl rfl rfl rfl rfl keep_named Tryz.func6 keep_facts keep_instance keep_wrapper
    (fun os started H enc _ F => by rw [OpenClaim.pre_eq_preRow]; exact keep_lifted os started H enc F)
end Go.Proofs.YtdbdebcakemmbaaGreatDoor
