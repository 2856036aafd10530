/- BrokerKeeps is true for every input: a silent client is shut just when it has been silent for longer than half as long again as it promised, and whatever it says counts as a word. No condition: the row's own (its five listed tables hold what the program's text lays). -/
import Derived.Test.YtdbdebcakemmbaaGreatDoorHxKeepT
namespace Go.Proofs.YtdbdebcakemmbaaGreatDoor
open Go Go.Hx Go.RowKit Go.ChangeShapes Go.WideShapes Go.ChangeAt Go.Lib
theorem keep_plain (f : FuncId) (fn : Func) (hf : Tryz.pinned.checked.prog.funcNamed "hubbub/hubbublaw20.BrokerKeeps" = some f) (hfn : Tryz.pinned.checked.prog.funcs[f]? = some fn) :
    false = Tryz.pinned.checked.prog.looks [] ∧ ∀ (j : Nat) t, fn.params[j]? = some t → Tryz.pinned.checked.prog.wantsStandIn t = false := by
  obtain rfl : f = 6 := Option.some.inj ((show Tryz.prog.funcNamed "hubbub/hubbublaw20.BrokerKeeps" = some 6 by kernel_rfl).symm.trans hf) |>.symm
  obtain rfl : fn = Tryz.f6 := (Option.some.inj (Tryz.func6.symm.trans hfn)).symm
  refine ⟨by kernel_rfl, fun j t ht => ?_⟩
  rw [Tryz.params6] at ht
  have hm : t ∈ #[5, 5, 5] := Array.mem_of_getElem? ht
  simp only [List.mem_toArray, List.mem_cons, List.not_mem_nil, or_false] at hm
  rcases hm with rfl | rfl | rfl
  · exact (show Tryz.prog.wantsStandIn 5 = false by kernel_rfl)
  · exact (show Tryz.prog.wantsStandIn 5 = false by kernel_rfl)
  · exact (show Tryz.prog.wantsStandIn 5 = false by kernel_rfl)
/-- ████ THE CARD ████ -/
theorem keep_card : Rows.BrokerKeepsCardSaid :=
  Claim7.holds_tied_plain_at .later [] _ _ _ _ keep_said (fun _ h => by cases h) (by kernel_rfl) (fun _ h => by cases h) brokerKeeps_row_tie rfl ⟨rfl, rfl⟩ (by kernel_rfl) rfl keep_plain (by kernel_rfl)
end Go.Proofs.YtdbdebcakemmbaaGreatDoor
