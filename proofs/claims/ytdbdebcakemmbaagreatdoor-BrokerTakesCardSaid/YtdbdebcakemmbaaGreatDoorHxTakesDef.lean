/- BrokerTakes: what the executor is told of its number. -/
import Derived.Test.YtdbdebcakemmbaaGreatDoorHxSeat
namespace Go.Proofs.YtdbdebcakemmbaaGreatDoor
open Go.Hx
def takesRules : List Rule := [⟨.rem, .opq 0, .int .u8 (.ofNat 10), 1⟩]
noncomputable def takesCx (l : List Nat) : Cx := { fns := fns, prim := prims, gm := utfMem 1 2, ot := otOf takesRules [], ch := fun _ i => if Nat.beq i 1 then some (l.map fun n => .int .u8 (.ofNat n)) else none, lets := lets, rounds := 100000 }
end Go.Proofs.YtdbdebcakemmbaaGreatDoor
