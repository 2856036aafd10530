/- The function that tells the nearest time that may be: what comes of a time that may be. -/
import Derived.Test.YtdbdebcakemmbaaGreatDoorHxSeat
import Derived.WalkKit
namespace Go.Proofs.YtdbdebcakemmbaaGreatDoor
open Go.RowKit
set_option maxHeartbeats 400000 in
theorem near35 (n : Int) (h1 : -1099511627776 ≤ n) (h2 : n ≤ 1099511627776) (w : World) :
    Calls Tryz.prog 35 #[.int .i64 n] w fun e w' => e = .returned (.int .i64 n) ∧ w' = w := by
  go_enter Tryz.func35, Tryz.ntmps35
  go_wp2
  go_ret
  refine ⟨?_, rfl⟩
  show Ending.returned (Value.int .i64 (min (max n (-1099511627776)) 1099511627776)) = _
  rw [show min (max n (-1099511627776)) 1099511627776 = n from by omega]
set_option maxHeartbeats 400000 in
theorem near82 (n : Int) (h1 : -1099511627776 ≤ n) (h2 : n ≤ 1099511627776) (w : World) :
    Calls Tryz.prog 82 #[.int .i64 n] w fun e w' => e = .returned (.int .i64 n) ∧ w' = w := by
  go_enter Tryz.func82, Tryz.ntmps82
  go_wp2
  go_ret
  refine ⟨?_, rfl⟩
  show Ending.returned (Value.int .i64 (min (max n (-1099511627776)) 1099511627776)) = _
  rw [show min (max n (-1099511627776)) 1099511627776 = n from by omega]
end Go.Proofs.YtdbdebcakemmbaaGreatDoor
