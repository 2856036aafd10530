/- BrokerSessions: runs of the executor, in the kernel. -/
import Derived.Test.YtdbdebcakemmbaaGreatDoorHxSessDef
namespace Go.Proofs.YtdbdebcakemmbaaGreatDoor
open Go.Hx
set_option maxRecDepth 1000000 in
theorem sess_tt0_0 : callN (sessCx 0 14 0) 50 Bool ansB 10 [.bool true, .bool true, .opq 0, .opq 1] ⟨0, .nil⟩ isTrue .nil = true := by kernel_rfl
set_option maxRecDepth 1000000 in
theorem sess_tt0_1 : callN (sessCx 0 14 1) 50 Bool ansB 10 [.bool true, .bool true, .opq 0, .opq 1] ⟨0, .nil⟩ isTrue .nil = true := by kernel_rfl
set_option maxRecDepth 1000000 in
theorem sess_tt0_2 : callN (sessCx 0 14 2) 50 Bool ansB 10 [.bool true, .bool true, .opq 0, .opq 1] ⟨0, .nil⟩ isTrue .nil = true := by kernel_rfl
end Go.Proofs.YtdbdebcakemmbaaGreatDoor
