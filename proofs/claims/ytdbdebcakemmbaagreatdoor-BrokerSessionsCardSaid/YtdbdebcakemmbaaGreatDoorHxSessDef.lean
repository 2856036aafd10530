/- BrokerSessions: what the executor is told of its numbers. -/
import Derived.Test.YtdbdebcakemmbaaGreatDoorHxSeat
namespace Go.Proofs.YtdbdebcakemmbaaGreatDoor
open Go.Hx
def sessRules : List Rule := [⟨.rem, .opq 0, .int .u8 (.ofNat 15), 2⟩, ⟨.rem, .opq 1, .int .u8 (.ofNat 3), 3⟩] ++ (List.range 15).map fun i => ⟨.lss, .int .i64 (.ofNat i), .opq 4, Nat.add 100 i⟩
def sessC : List CRule := [⟨.i64, .opq 2, 4⟩]
/-- What the rounds so far have told of how many there are. -/
noncomputable def sessMany (g : T AV) : List Nat → Option (List AV)
  | [] => none
  | i :: is => match g.get (Nat.add 100 i) with
    | some (.bool false) => if Nat.beq i 0 then some [.int .i64 (.ofNat i)] else match g.get (Nat.add 99 i) with
      | some (.bool true) => some [.int .i64 (.ofNat i)]
      | _ => sessMany g is
    | _ => sessMany g is
/-- The numbers from lo to hi; what is left of the second. -/
noncomputable def sessCh (lo hi q : Nat) (g : T AV) (i : Nat) : Option (List AV) :=
  if Nat.beq i 3 then some [.int .u8 (.ofNat q)] else if Nat.beq i 4 then sessMany g (List.range 15) else if Nat.ble 100 i then (if Nat.ble (Nat.add 100 hi) i then some [.bool false] else if Nat.ble (Nat.add 100 lo) i then some [.bool true, .bool false] else some [.bool true]) else none
noncomputable def sessCx (lo hi q : Nat) : Cx := { fns := fns, prim := prims, gm := utfMem 1 2, ot := otOf sessRules sessC, ch := sessCh lo hi q, lets := lets, rounds := 100000 }
end Go.Proofs.YtdbdebcakemmbaaGreatDoor
