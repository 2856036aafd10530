/- BrokerSessions: runs of the executor, in the kernel. -/
import Derived.Test.YtdbdebcakemmbaaGreatDoorHxSessDef
namespace Go.Proofs.YtdbdebcakemmbaaGreatDoor
open Go.Hx
set_option maxRecDepth 1000000 in
theorem sess_ft0_0 : callN (sessCx 0 6 0) 50 Bool ansB 10 [.bool false, .bool true, .opq 0, .opq 1] ⟨0, .nil⟩ isTrue .nil = true := by kernel_rfl
set_option maxRecDepth 1000000 in
theorem sess_ft0_1 : callN (sessCx 0 6 1) 50 Bool ansB 10 [.bool false, .bool true, .opq 0, .opq 1] ⟨0, .nil⟩ isTrue .nil = true := by kernel_rfl
set_option maxRecDepth 1000000 in
theorem sess_ft0_2 : callN (sessCx 0 6 2) 50 Bool ansB 10 [.bool false, .bool true, .opq 0, .opq 1] ⟨0, .nil⟩ isTrue .nil = true := by kernel_rfl
end Go.Proofs.YtdbdebcakemmbaaGreatDoor
