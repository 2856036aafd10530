/- BrokerKeeps: the run of the executor, in the kernel. -/
import Derived.Test.YtdbdebcakemmbaaGreatDoorHxKeepP
namespace Go.Proofs.YtdbdebcakemmbaaGreatDoor
open Go.Hx
set_option maxRecDepth 1000000 in
theorem keep_run : callN keepCx 50 Bool ansB 6 [.opq 0, .opq 1, .opq 2] ⟨0, .nil⟩ isTrue .nil = true := by kernel_rfl
end Go.Proofs.YtdbdebcakemmbaaGreatDoor
