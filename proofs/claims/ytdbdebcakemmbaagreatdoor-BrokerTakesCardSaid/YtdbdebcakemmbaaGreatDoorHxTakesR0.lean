/- BrokerTakes: runs of the executor, in the kernel. -/
import Derived.Test.YtdbdebcakemmbaaGreatDoorHxTakesDef
namespace Go.Proofs.YtdbdebcakemmbaaGreatDoor
open Go.Hx
set_option maxRecDepth 1000000 in
theorem takes_ff1 : callN (takesCx [0, 1, 2, 3, 4]) 50 Bool ansB 8 [.bool false, .bool false, .opq 0] ⟨0, .nil⟩ isTrue .nil = true := by kernel_rfl
set_option maxRecDepth 1000000 in
theorem takes_ff2 : callN (takesCx [5, 6, 7, 8, 9]) 50 Bool ansB 8 [.bool false, .bool false, .opq 0] ⟨0, .nil⟩ isTrue .nil = true := by kernel_rfl
end Go.Proofs.YtdbdebcakemmbaaGreatDoor
