/- BrokerSessions: the row. -/
import Derived.Test.YtdbdebcakemmbaaGreatDoorHxSessL
namespace Go.Proofs.YtdbdebcakemmbaaGreatDoor
open Go Go.Hx Go.RowKit Go.ChangeShapes Go.WideShapes Go.ChangeAt Go.Lib
theorem sess_named : Tryz.pinned.checked.prog.funcNamed Rows.brokerSessionsRow.func = some 10 := by kernel_rfl
theorem sess_facts : joinedFacts Tryz.pinned.checked.prog 10 Tryz.f10 (OpenSpec.ofChange Rows.brokerSessionsSpec).bare Rows.brokerSessionsRow = true := by kernel_rfl
theorem sess_instance : Tryz.f10.isInstance Tryz.pinned.checked.prog Rows.brokerSessionsRow.origin Rows.brokerSessionsRow.targs := (of_decide_eq_true (by kernel_rfl))
theorem sess_wrapper : Tryz.f10.isWrapper Tryz.pinned.checked.prog Rows.brokerSessionsRow.wrapper Rows.brokerSessionsRow.mainSum := (by unfold Func.isWrapper; first | (rw [if_pos (by decide +kernel)]; kernel_rfl) | (rw [if_neg (by decide +kernel)]; exact ⟨rfl, rfl⟩))
theorem sess_said : Rows.BrokerSessionsSaid :=
  OpenClaim.holds_of_cond 10 Tryz.f10 rfl rfl rfl rfl rfl rfl rfl ⟨rfl, rfl, rfl, rfl, rfl⟩ rfl rfl rfl rfl rfl sess_named Tryz.func10 sess_facts sess_instance sess_wrapper
    (fun os started H enc _ F => by rw [OpenClaim.pre_eq_preRow]; exact sess_lifted os started H enc F)
end Go.Proofs.YtdbdebcakemmbaaGreatDoor
