/- BrokerTakes is true for every input: who comes by the name of one who is there takes its place, with its session or without. No condition: the row's own (its five listed tables hold what the program's text lays). -/
import Derived.Test.YtdbdebcakemmbaaGreatDoorHxTakesT
namespace Go.Proofs.YtdbdebcakemmbaaGreatDoor
open Go Go.Hx Go.RowKit Go.ChangeShapes Go.WideShapes Go.ChangeAt Go.Lib
theorem takes_plain (f : FuncId) (fn : Func) (hf : Tryz.pinned.checked.prog.funcNamed "hubbub/hubbublaw20.BrokerTakes" = some f) (hfn : Tryz.pinned.checked.prog.funcs[f]? = some fn) :
    false = Tryz.pinned.checked.prog.looks [] ∧ ∀ (j : Nat) t, fn.params[j]? = some t → Tryz.pinned.checked.prog.wantsStandIn t = false := by
  obtain rfl : f = 8 := Option.some.inj ((show Tryz.prog.funcNamed "hubbub/hubbublaw20.BrokerTakes" = some 8 by kernel_rfl).symm.trans hf) |>.symm
  obtain rfl : fn = Tryz.f8 := (Option.some.inj (Tryz.func8.symm.trans hfn)).symm
  refine ⟨by kernel_rfl, fun j t ht => ?_⟩
  rw [Tryz.params8] at ht
  have hm : t ∈ #[4, 4, 5] := Array.mem_of_getElem? ht
  simp only [List.mem_toArray, List.mem_cons, List.not_mem_nil, or_false] at hm
  rcases hm with rfl | rfl | rfl
  · exact (show Tryz.prog.wantsStandIn 4 = false by kernel_rfl)
  · exact (show Tryz.prog.wantsStandIn 4 = false by kernel_rfl)
  · exact (show Tryz.prog.wantsStandIn 5 = false by kernel_rfl)
/-- ████ THE CARD ████ -/
theorem takes_card : Rows.BrokerTakesCardSaid :=
  Claim7.holds_tied_plain_at .later [] _ _ _ _ takes_said (fun _ h => by cases h) (by kernel_rfl) (fun _ h => by cases h) brokerTakes_row_tie rfl ⟨rfl, rfl⟩ (by kernel_rfl) rfl takes_plain (by kernel_rfl)
end Go.Proofs.YtdbdebcakemmbaaGreatDoor
