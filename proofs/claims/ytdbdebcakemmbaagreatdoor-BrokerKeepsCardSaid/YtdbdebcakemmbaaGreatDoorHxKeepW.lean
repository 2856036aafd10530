/- BrokerKeeps: the walk, from the run. -/
import Derived.Test.YtdbdebcakemmbaaGreatDoorHxKeepR
namespace Go.Proofs.YtdbdebcakemmbaaGreatDoor
open Go Go.Hx Go.RowKit Go.ChangeShapes Go.WideShapes Go.ChangeAt Go.Lib
theorem wrapF_nat {k : IntKind} {m : Nat} (h : m ≤ kmax k) : wrapF k (m : Int) = m := by
  show (if Nat.ble m (kmax k) then Int.ofNat m else _) = _
  rw [if_pos (Nat.ble_eq_true_of_le h)]
  rfl
/-- The opaque ones: the three numbers, what is left of them, and what is made of these. -/
def keepVals (k s a : Nat) : Nat → Value
  | 0 => .int .u8 k
  | 1 => .int .u8 s
  | 2 => .int .u8 a
  | 3 => .int .u8 (k % 20 : Nat)
  | 4 => .int .i64 (k % 20 : Nat)
  | 5 => .int .u8 (s % 30 : Nat)
  | 6 => .int .i64 (s % 30 : Nat)
  | 7 => .int .u8 (a % 40 : Nat)
  | 8 => .int .i64 (a % 40 : Nat)
  | 9 => .int .i64 (s % 30 + a % 40 : Nat)
  | 10 => .bool (decide ((0 : Int) < (k % 20 : Nat)))
  | 12 => .int .i64 (2 * (a % 40) : Nat)
  | 13 => .int .i64 (3 * (k % 20) : Nat)
  | 14 => .bool (decide (((3 * (k % 20) : Nat) : Int) < (2 * (a % 40) : Nat)))
  | _ => .bool true
set_option maxRecDepth 100000 in
theorem keep_walk0 (W : World) (htab : Utf8Tabs 1 2 W) (k s a : Nat) :
    Calls Tryz.prog 6 #[.int .u8 k, .int .u8 s, .int .u8 a] W fun e w' => e = .returned (.bool true) ∧ Below W.heap.size W w' := by
  have hgm : GmOk (keepVals k s a) (utfMem 1 2) W := utf_gm (by decide) htab
  have hone : OneOpq (keepVals k s a) := fun i => by
    unfold keepVals
    split <;> rfl
  have hk : k % 20 < 20 := Nat.mod_lt _ (by decide)
  have hs : s % 30 < 30 := Nat.mod_lt _ (by decide)
  have ha : a % 40 < 40 := Nat.mod_lt _ (by decide)
  have hx8 : kmax .u8 = 255 := rfl
  have hx64 : kmax .i64 = 9223372036854775807 := rfl
  refine calls_true (σ := keepVals k s a) (cx := keepCx) mixed names hone (otOf_ok (fun x hx => ?_) (fun x hx => ?_)) (fun g i l hg hl => ?_) (show FnsOk Tryz.prog keepCx.fns from fns_ok)
    (show PrimOk Tryz.prog (keepVals k s a) _ keepCx.gm keepCx.prim from keepPrims_ok (fun i hi => ?_) (gmB_of hgm)) hgm (Tryz.call6 _) ?_ keep_run
  · simp only [keepRules, List.mem_cons, List.not_mem_nil, or_false] at hx
    rcases hx with rfl | rfl | rfl | rfl | rfl | rfl | rfl | rfl | rfl
    · exact ⟨.u8, k, .u8, 20, .int .u8 ((k : Int).tmod 20), rfl, rfl, by simp [sBin, isShift, kbeq, intBin], rfl⟩
    · exact ⟨.u8, s, .u8, 30, .int .u8 ((s : Int).tmod 30), rfl, rfl, by simp [sBin, isShift, kbeq, intBin], rfl⟩
    · exact ⟨.u8, a, .u8, 40, .int .u8 ((a : Int).tmod 40), rfl, rfl, by simp [sBin, isShift, kbeq, intBin], rfl⟩
    · refine ⟨.i64, (s % 30 : Nat), .i64, (a % 40 : Nat), .int .i64 (s % 30 + a % 40 : Nat), rfl, rfl, ?_, rfl⟩
      show some (AV.int .i64 (wrapF .i64 ((s % 30 + a % 40 : Nat) : Int))) = _
      rw [wrapF_nat (by omega)]
    · exact ⟨.i64, (k % 20 : Nat), .i64, 0, .bool (decide ((0 : Int) < (k % 20 : Nat))), rfl, rfl, rfl, rfl⟩
    · refine ⟨.i64, (s % 30 + a % 40 : Nat), .i64, (s % 30 : Nat), .int .i64 (a % 40 : Nat), rfl, rfl, ?_, rfl⟩
      show some (AV.int .i64 (wrapF .i64 (((s % 30 + a % 40 : Nat) : Int) - ((s % 30 : Nat) : Int)))) = _
      rw [show ((s % 30 + a % 40 : Nat) : Int) - ((s % 30 : Nat) : Int) = ((a % 40 : Nat) : Int) from by omega, wrapF_nat (by omega)]
    · refine ⟨.i64, 2, .i64, (a % 40 : Nat), .int .i64 (2 * (a % 40) : Nat), rfl, rfl, ?_, rfl⟩
      show some (AV.int .i64 (wrapF .i64 ((2 * (a % 40) : Nat) : Int))) = _
      rw [wrapF_nat (by omega)]
    · refine ⟨.i64, 3, .i64, (k % 20 : Nat), .int .i64 (3 * (k % 20) : Nat), rfl, rfl, ?_, rfl⟩
      show some (AV.int .i64 (wrapF .i64 ((3 * (k % 20) : Nat) : Int))) = _
      rw [wrapF_nat (by omega)]
    · exact ⟨.i64, (2 * (a % 40) : Nat), .i64, (3 * (k % 20) : Nat), .bool (decide (((3 * (k % 20) : Nat) : Int) < (2 * (a % 40) : Nat))), rfl, rfl, rfl, rfl⟩
  · simp only [keepC, List.mem_cons, List.not_mem_nil, or_false] at hx
    rcases hx with rfl | rfl | rfl
    · refine ⟨.u8, (k % 20 : Nat), rfl, ?_⟩
      show Value.int .i64 ((k % 20 : Nat) : Int) = .int .i64 (wrapF .i64 ((k % 20 : Nat) : Int))
      rw [wrapF_nat (by omega)]
    · refine ⟨.u8, (s % 30 : Nat), rfl, ?_⟩
      show Value.int .i64 ((s % 30 : Nat) : Int) = .int .i64 (wrapF .i64 ((s % 30 : Nat) : Int))
      rw [wrapF_nat (by omega)]
    · refine ⟨.u8, (a % 40 : Nat), rfl, ?_⟩
      show Value.int .i64 ((a % 40 : Nat) : Int) = .int .i64 (wrapF .i64 ((a % 40 : Nat) : Int))
      rw [wrapF_nat (by omega)]
  · have hl : keepCh g i = some l := hl
    unfold keepCh at hl
    split at hl
    · rename_i e
      cases hl
      have both : ∀ b : Bool, ∃ v ∈ [AV.bool true, AV.bool false], ∀ E, VRel (keepVals k s a) E v (.bool b) := fun b => by
        cases b
        · exact ⟨_, List.mem_cons_of_mem _ List.mem_cons_self, fun E => .bool _⟩
        · exact ⟨_, List.mem_cons_self, fun E => .bool _⟩
      rcases Bool.or_eq_true_iff.1 e with e | e
      · obtain rfl := Nat.eq_of_beq_eq_true e
        exact both _
      · obtain rfl := Nat.eq_of_beq_eq_true e
        exact both _
    · cases hl
  · rcases Bool.or_eq_true_iff.1 hi with e | e
    · obtain rfl := Nat.eq_of_beq_eq_true e
      exact ⟨_, rfl, by omega, by omega⟩
    · obtain rfl := Nat.eq_of_beq_eq_true e
      exact ⟨_, rfl, by omega, by omega⟩
  · exact .cons _ _ _ _ (.opq 0) (.cons _ _ _ _ (.opq 1) (.cons _ _ _ _ (.opq 2) .nil))
theorem keep_walk (W : World) (htab : Utf8Tabs 1 2 W) (k s a : Int) (hk : (Lit.int .u8 k).wf = true) (hs : (Lit.int .u8 s).wf = true) (ha : (Lit.int .u8 a).wf = true) :
    Calls Tryz.prog 6 #[.int .u8 k, .int .u8 s, .int .u8 a] W fun e w' => e = .returned (.bool true) ∧ Below W.heap.size W w' := by
  have nat : ∀ n : Int, (Lit.int .u8 n).wf = true → 0 ≤ n := fun n h => by
    simp [Lit.wf, IntKind.min, IntKind.max, IntKind.signed, IntKind.bits] at h
    omega
  obtain ⟨k, rfl⟩ := Int.eq_ofNat_of_zero_le (nat _ hk)
  obtain ⟨s, rfl⟩ := Int.eq_ofNat_of_zero_le (nat _ hs)
  obtain ⟨a, rfl⟩ := Int.eq_ofNat_of_zero_le (nat _ ha)
  exact keep_walk0 W htab k s a
end Go.Proofs.YtdbdebcakemmbaaGreatDoor
