/- BrokerTakes: the walk, from the runs. -/
import Derived.Test.YtdbdebcakemmbaaGreatDoorHxTakesR0
import Derived.Test.YtdbdebcakemmbaaGreatDoorHxTakesR1
import Derived.Test.YtdbdebcakemmbaaGreatDoorHxTakesR2
import Derived.Test.YtdbdebcakemmbaaGreatDoorHxTakesR3
namespace Go.Proofs.YtdbdebcakemmbaaGreatDoor
open Go Go.Hx Go.RowKit Go.ChangeShapes Go.WideShapes Go.ChangeAt Go.Lib
/-- The opaque ones: the number, and what is left of it by ten. -/
def takesVals (k : Int) : Nat → Value := fun i => if i = 0 then .int .u8 k else .int .u8 (k.tmod 10)
set_option maxRecDepth 100000 in
theorem takes_walk (W : World) (htab : Utf8Tabs 1 2 W) (c a : Bool) (k : Int) (hk : (Lit.int .u8 k).wf = true) :
    Calls Tryz.prog 8 #[.bool c, .bool a, .int .u8 k] W fun e w' => e = .returned (.bool true) ∧ Below W.heap.size W w' := by
  have hk0 : 0 ≤ k ∧ k ≤ 255 := by
    simp [Lit.wf, IntKind.min, IntKind.max, IntKind.signed, IntKind.bits] at hk
    omega
  have hgm : GmOk (takesVals k) (utfMem 1 2) W := utf_gm (by decide) htab
  have hone : OneOpq (takesVals k) := fun i => by unfold takesVals; split <;> rfl
  have hm : ∃ m : Nat, k.tmod 10 = m ∧ m < 10 := by
    obtain ⟨n, rfl⟩ := Int.eq_ofNat_of_zero_le hk0.1
    exact ⟨n % 10, rfl, Nat.mod_lt _ (by decide)⟩
  obtain ⟨m, hm, hm10⟩ := hm
  have go : ∀ (l : List Nat), m ∈ l → callN (takesCx l) 50 Bool ansB 8 [.bool c, .bool a, .opq 0] ⟨0, .nil⟩ isTrue .nil = true →
      Calls Tryz.prog 8 #[.bool c, .bool a, .int .u8 k] W fun e w' => e = .returned (.bool true) ∧ Below W.heap.size W w' := fun l hl hrun => by
    refine calls_true (σ := takesVals k) (cx := takesCx l) mixed names hone (otOf_ok (fun r hr => ?_) (fun r hr => by simp at hr)) (fun g i l' _ hl' => ?_) (show FnsOk Tryz.prog (takesCx l).fns from fns_ok) (show PrimOk Tryz.prog (takesVals k) _ (takesCx l).gm (takesCx l).prim from prims_ok (gmB_of hgm)) hgm (Tryz.call8 _) ?_ hrun
    · obtain rfl := List.mem_singleton.1 hr
      refine ⟨.u8, k, .u8, 10, .int .u8 (k.tmod 10), rfl, rfl, ?_, rfl⟩
      simp [sBin, isShift, kbeq, intBin]
    · have hl' : (if Nat.beq i 1 then some (l.map fun n => AV.int .u8 (.ofNat n)) else none) = some l' := hl'
      split at hl'
      · rename_i e
        have e := Nat.eq_of_beq_eq_true e
        subst e
        cases hl'
        exact ⟨.int .u8 m, List.mem_map.2 ⟨m, hl, rfl⟩, fun E => by
          show VRel _ _ _ (if 1 = 0 then _ else _)
          rw [if_neg (by decide), hm]
          exact .int _ _⟩
      · cases hl'
    · exact .cons _ _ _ _ (.bool c) (.cons _ _ _ _ (.bool a) (.cons _ _ _ _ (.opq 0) .nil))
  by_cases h5 : m < 5
  · have hl : m ∈ [0, 1, 2, 3, 4] := by
      rcases (by omega : m = 0 ∨ m = 1 ∨ m = 2 ∨ m = 3 ∨ m = 4) with h | h | h | h | h <;> subst h <;> decide
    cases c <;> cases a
    · exact go _ hl takes_ff1
    · exact go _ hl takes_ft1
    · exact go _ hl takes_tf1
    · exact go _ hl takes_tt1
  · have hl : m ∈ [5, 6, 7, 8, 9] := by
      rcases (by omega : m = 5 ∨ m = 6 ∨ m = 7 ∨ m = 8 ∨ m = 9) with h | h | h | h | h <;> subst h <;> decide
    cases c <;> cases a
    · exact go _ hl takes_ff2
    · exact go _ hl takes_ft2
    · exact go _ hl takes_tf2
    · exact go _ hl takes_tt2

end Go.Proofs.YtdbdebcakemmbaaGreatDoor
