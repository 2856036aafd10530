/- BrokerSessions is true for every input: a session outlasts its connection just if it is not clean, with its filters and what waits. No condition: the row's own (its five listed tables hold what the program's text lays). -/
import Derived.Test.YtdbdebcakemmbaaGreatDoorHxSessT
namespace Go.Proofs.YtdbdebcakemmbaaGreatDoor
open Go Go.Hx Go.RowKit Go.ChangeShapes Go.WideShapes Go.ChangeAt Go.Lib
theorem sess_plain (f : FuncId) (fn : Func) (hf : Tryz.pinned.checked.prog.funcNamed "hubbub/hubbublaw20.BrokerSessions" = some f) (hfn : Tryz.pinned.checked.prog.funcs[f]? = some fn) :
    false = Tryz.pinned.checked.prog.looks [] ∧ ∀ (j : Nat) t, fn.params[j]? = some t → Tryz.pinned.checked.prog.wantsStandIn t = false := by
  obtain rfl : f = 10 := Option.some.inj ((show Tryz.prog.funcNamed "hubbub/hubbublaw20.BrokerSessions" = some 10 by kernel_rfl).symm.trans hf) |>.symm
  obtain rfl : fn = Tryz.f10 := (Option.some.inj (Tryz.func10.symm.trans hfn)).symm
  refine ⟨by kernel_rfl, fun j t ht => ?_⟩
  rw [Tryz.params10] at ht
  have hm : t ∈ #[4, 4, 5, 5] := Array.mem_of_getElem? ht
  simp only [List.mem_toArray, List.mem_cons, List.not_mem_nil, or_false] at hm
  rcases hm with rfl | rfl | rfl | rfl
  · exact (show Tryz.prog.wantsStandIn 4 = false by kernel_rfl)
  · exact (show Tryz.prog.wantsStandIn 4 = false by kernel_rfl)
  · exact (show Tryz.prog.wantsStandIn 5 = false by kernel_rfl)
  · exact (show Tryz.prog.wantsStandIn 5 = false by kernel_rfl)
/-- ████ THE CARD ████ -/
theorem sess_card : Rows.BrokerSessionsCardSaid :=
  Claim7.holds_tied_plain_at .later [] _ _ _ _ sess_said (fun _ h => by cases h) (by kernel_rfl) (fun _ h => by cases h) brokerSessions_row_tie rfl ⟨rfl, rfl⟩ (by kernel_rfl) rfl sess_plain (by kernel_rfl)
end Go.Proofs.YtdbdebcakemmbaaGreatDoor
