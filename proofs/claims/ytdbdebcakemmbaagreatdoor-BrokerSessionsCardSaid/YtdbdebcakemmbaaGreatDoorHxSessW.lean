/- BrokerSessions: the walk, from the runs. -/
import Derived.Test.YtdbdebcakemmbaaGreatDoorHxSessA
import Derived.Test.YtdbdebcakemmbaaGreatDoorHxSessB
import Derived.Test.YtdbdebcakemmbaaGreatDoorHxSessC
import Derived.Test.YtdbdebcakemmbaaGreatDoorHxSessD
import Derived.Test.YtdbdebcakemmbaaGreatDoorHxSessE
import Derived.Test.YtdbdebcakemmbaaGreatDoorHxSessF
import Derived.Test.YtdbdebcakemmbaaGreatDoorHxSessG
namespace Go.Proofs.YtdbdebcakemmbaaGreatDoor
open Go Go.Hx Go.RowKit Go.ChangeShapes Go.WideShapes Go.ChangeAt Go.Lib
/-- The opaque ones: the numbers, what is left of them, the first as an int, and whether a round is to come. -/
def sessVals (k q : Int) : Nat → Value := fun i => if i = 0 then .int .u8 k else if i = 1 then .int .u8 q else if i = 2 then .int .u8 (k.tmod 15) else if i = 3 then .int .u8 (q.tmod 3) else if i = 4 then .int .i64 (k.tmod 15) else .bool (decide ((i : Int) - 100 < k.tmod 15))
theorem sessMany_ok {k q : Int} {m : Nat} (hm : k.tmod 15 = m) {g : T AV} (hg : Cons (sessVals k q) g) {v : List AV} : ∀ {is : List Nat}, sessMany g is = some v → ∃ a ∈ v, ∀ E, VRel (sessVals k q) E a (sessVals k q 4)
  | [], h => by cases h
  | i :: is, h => by
    have bool : ∀ (j : Nat) (b : Bool), g.get (Nat.add 100 j) = some (.bool b) → b = decide (j < m) := fun j b hj => by
      have h1 := hg _ _ hj (fun _ => none)
      have e : sessVals k q (Nat.add 100 j) = .bool (decide (j < m)) := by
        show sessVals k q (100 + j) = _
        unfold sessVals
        rw [if_neg (by omega), if_neg (by omega), if_neg (by omega), if_neg (by omega), if_neg (by omega), hm]
        congr 1
        simp only [decide_eq_decide]
        omega
      rw [e] at h1
      cases h1
      rfl
    simp only [sessMany] at h
    split at h
    · rename_i h0
      have b0 := bool _ _ h0
      have n0 : ¬ i < m := by simpa using b0.symm
      have e4 : sessVals k q 4 = .int .i64 m := by show Value.int .i64 _ = _; rw [hm]
      split at h
      · rename_i hz
        cases h
        have hz := Nat.eq_of_beq_eq_true hz
        refine ⟨_, List.mem_singleton.2 rfl, fun E => ?_⟩
        rw [e4]
        obtain rfl : m = i := by omega
        exact .int _ _
      · rename_i hz
        have hz : i ≠ 0 := fun e => hz (by rw [e]; rfl)
        split at h
        · rename_i h1
          cases h
          have e1 : Nat.add 99 i = Nat.add 100 (i - 1) := by show 99 + i = 100 + (i - 1); omega
          rw [e1] at h1
          have n1 : i - 1 < m := by simpa using (bool _ _ h1).symm
          refine ⟨_, List.mem_singleton.2 rfl, fun E => ?_⟩
          rw [e4]
          obtain rfl : m = i := by omega
          exact .int _ _
        · exact sessMany_ok hm hg h
    · exact sessMany_ok hm hg h
set_option maxRecDepth 100000 in
theorem sess_walk (W : World) (htab : Utf8Tabs 1 2 W) (c a : Bool) (k q : Int) (hk : (Lit.int .u8 k).wf = true) (hq : (Lit.int .u8 q).wf = true) :
    Calls Tryz.prog 10 #[.bool c, .bool a, .int .u8 k, .int .u8 q] W fun e w' => e = .returned (.bool true) ∧ Below W.heap.size W w' := by
  have hk0 : 0 ≤ k ∧ k ≤ 255 := by
    simp [Lit.wf, IntKind.min, IntKind.max, IntKind.signed, IntKind.bits] at hk
    omega
  have hq0 : 0 ≤ q ∧ q ≤ 255 := by
    simp [Lit.wf, IntKind.min, IntKind.max, IntKind.signed, IntKind.bits] at hq
    omega
  have hgm : GmOk (sessVals k q) (utfMem 1 2) W := utf_gm (by decide) htab
  have hone : OneOpq (sessVals k q) := fun i => by
    unfold sessVals
    repeat' split
    all_goals rfl
  have hm : ∃ m : Nat, k.tmod 15 = m ∧ m < 15 := by
    obtain ⟨n, rfl⟩ := Int.eq_ofNat_of_zero_le hk0.1
    exact ⟨n % 15, rfl, Nat.mod_lt _ (by decide)⟩
  have hr : ∃ m : Nat, q.tmod 3 = m ∧ m < 3 := by
    obtain ⟨n, rfl⟩ := Int.eq_ofNat_of_zero_le hq0.1
    exact ⟨n % 3, rfl, Nat.mod_lt _ (by decide)⟩
  obtain ⟨m, hm, hm15⟩ := hm
  obtain ⟨r, hr, hr3⟩ := hr
  have go : ∀ (lo hi : Nat), lo ≤ m → m ≤ hi → callN (sessCx lo hi r) 50 Bool ansB 10 [.bool c, .bool a, .opq 0, .opq 1] ⟨0, .nil⟩ isTrue .nil = true →
      Calls Tryz.prog 10 #[.bool c, .bool a, .int .u8 k, .int .u8 q] W fun e w' => e = .returned (.bool true) ∧ Below W.heap.size W w' := fun lo hi hlo hhi hrun => by
    refine calls_true (σ := sessVals k q) (cx := sessCx lo hi r) mixed names hone (otOf_ok (fun x hx => ?_) (fun x hx => ?_)) (fun g i l' hg hl' => ?_) (show FnsOk Tryz.prog (sessCx lo hi r).fns from fns_ok) (show PrimOk Tryz.prog (sessVals k q) _ (sessCx lo hi r).gm (sessCx lo hi r).prim from prims_ok (gmB_of hgm)) hgm (Tryz.call10 _) ?_ hrun
    · rcases List.mem_append.1 hx with hx | hx
      · simp only [List.mem_cons, List.not_mem_nil, or_false] at hx
        rcases hx with rfl | rfl
        · refine ⟨.u8, k, .u8, 15, .int .u8 (k.tmod 15), rfl, rfl, ?_, rfl⟩
          simp [sBin, isShift, kbeq, intBin]
        · refine ⟨.u8, q, .u8, 3, .int .u8 (q.tmod 3), rfl, rfl, ?_, rfl⟩
          simp [sBin, isShift, kbeq, intBin]
      · obtain ⟨i, hi', rfl⟩ := List.mem_map.1 hx
        refine ⟨.i64, i, .i64, k.tmod 15, .bool (decide ((i : Int) < k.tmod 15)), rfl, rfl, ?_, ?_⟩
        · simp [sBin, isShift, kbeq, intBin]
        · show some (Value.bool _) = some (sessVals k q (100 + i))
          unfold sessVals
          rw [if_neg (by omega), if_neg (by omega), if_neg (by omega), if_neg (by omega), if_neg (by omega)]
          congr 2
          simp only [decide_eq_decide]
          omega
    · obtain rfl := List.mem_singleton.1 hx
      refine ⟨.u8, k.tmod 15, rfl, ?_⟩
      show Value.int .i64 _ = _
      rw [hm]
      congr 1
      rcases (by omega : m = 0 ∨ m = 1 ∨ m = 2 ∨ m = 3 ∨ m = 4 ∨ m = 5 ∨ m = 6 ∨ m = 7 ∨ m = 8 ∨ m = 9 ∨ m = 10 ∨ m = 11 ∨ m = 12 ∨ m = 13 ∨ m = 14) with h | h | h | h | h | h | h | h | h | h | h | h | h | h | h <;> subst h <;> decide
    · have hl' : sessCh lo hi r g i = some l' := hl'
      unfold sessCh at hl'
      split at hl'
      · rename_i e
        cases hl'
        obtain rfl := Nat.eq_of_beq_eq_true e
        refine ⟨_, List.mem_singleton.2 rfl, fun E => ?_⟩
        show VRel _ _ _ (Value.int .u8 (q.tmod 3))
        rw [hr]
        exact .int _ _
      · split at hl'
        · rename_i e
          obtain rfl := Nat.eq_of_beq_eq_true e
          exact sessMany_ok hm hg hl'
        · split at hl'
          · rename_i e
            have e := Nat.le_of_ble_eq_true e
            have ev : sessVals k q i = .bool (decide ((i : Int) - 100 < m)) := by
              unfold sessVals
              rw [if_neg (by omega), if_neg (by omega), if_neg (by omega), if_neg (by omega), if_neg (by omega), hm]
            rw [ev]
            split at hl'
            · rename_i h1
              have h1 : 100 + hi ≤ i := Nat.le_of_ble_eq_true h1
              cases hl'
              refine ⟨_, List.mem_singleton.2 rfl, fun E => ?_⟩
              rw [decide_eq_false (by omega)]
              exact .bool _
            · split at hl'
              · cases hl'
                by_cases h : (i : Int) - 100 < m
                · exact ⟨_, List.mem_cons_self, fun E => by rw [decide_eq_true h]; exact .bool _⟩
                · exact ⟨_, List.mem_cons_of_mem _ List.mem_cons_self, fun E => by rw [decide_eq_false h]; exact .bool _⟩
              · rename_i h1
                have h1 : ¬ 100 + lo ≤ i := fun h => h1 (Nat.ble_eq_true_of_le h)
                cases hl'
                refine ⟨_, List.mem_singleton.2 rfl, fun E => ?_⟩
                rw [decide_eq_true (by omega)]
                exact .bool _
          · cases hl'
    · exact .cons _ _ _ _ (.bool c) (.cons _ _ _ _ (.bool a) (.cons _ _ _ _ (.opq 0) (.cons _ _ _ _ (.opq 1) .nil)))
  have h3 : r = 0 ∨ r = 1 ∨ r = 2 := by omega
  cases c
  · cases a
    · by_cases h1 : m ≤ 4
      · rcases h3 with rfl | rfl | rfl
        · exact go 0 4 (by omega) h1 sess_ff0_0
        · exact go 0 4 (by omega) h1 sess_ff0_1
        · exact go 0 4 (by omega) h1 sess_ff0_2
      · by_cases h2 : m ≤ 9
        · rcases h3 with rfl | rfl | rfl
          · exact go 5 9 (by omega) h2 sess_ff5_0
          · exact go 5 9 (by omega) h2 sess_ff5_1
          · exact go 5 9 (by omega) h2 sess_ff5_2
        · rcases h3 with rfl | rfl | rfl
          · exact go 10 14 (by omega) (by omega) sess_ff10_0
          · exact go 10 14 (by omega) (by omega) sess_ff10_1
          · exact go 10 14 (by omega) (by omega) sess_ff10_2
    · by_cases h1 : m ≤ 6
      · rcases h3 with rfl | rfl | rfl
        · exact go 0 6 (by omega) h1 sess_ft0_0
        · exact go 0 6 (by omega) h1 sess_ft0_1
        · exact go 0 6 (by omega) h1 sess_ft0_2
      · rcases h3 with rfl | rfl | rfl
        · exact go 7 14 (by omega) (by omega) sess_ft7_0
        · exact go 7 14 (by omega) (by omega) sess_ft7_1
        · exact go 7 14 (by omega) (by omega) sess_ft7_2
  · cases a
    · rcases h3 with rfl | rfl | rfl
      · exact go 0 14 (by omega) (by omega) sess_tf0_0
      · exact go 0 14 (by omega) (by omega) sess_tf0_1
      · exact go 0 14 (by omega) (by omega) sess_tf0_2
    · rcases h3 with rfl | rfl | rfl
      · exact go 0 14 (by omega) (by omega) sess_tt0_0
      · exact go 0 14 (by omega) (by omega) sess_tt0_1
      · exact go 0 14 (by omega) (by omega) sess_tt0_2
end Go.Proofs.YtdbdebcakemmbaaGreatDoor
