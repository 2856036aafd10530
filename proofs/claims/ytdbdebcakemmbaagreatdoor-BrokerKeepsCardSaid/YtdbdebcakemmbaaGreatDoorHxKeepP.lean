/- BrokerKeeps: what the executor is told of its numbers. -/
import Derived.Test.YtdbdebcakemmbaaGreatDoorHxKeepN
namespace Go.Proofs.YtdbdebcakemmbaaGreatDoor
open Go Go.Hx Go.RowKit Go.ChangeShapes Go.WideShapes Go.ChangeAt Go.Lib
/-- A time that may be stays. -/
def pNear (ok : Nat → Bool) : List AV → Hx.Heap → List (AV × Hx.Heap)
  | [.int .i64 n], h => if decide (-1099511627776 ≤ n) && decide (n ≤ 1099511627776) then [(.int .i64 n, h)] else []
  | [.opq i], h => if ok i then [(.opq i, h)] else []
  | _, _ => []
theorem prim_near {σ : Nat → Value} {B : Nat} {gm : Nat → Nat → Option AV} {ok : Nat → Bool} (hok : ∀ i, ok i = true → ∃ n, σ i = .int .i64 n ∧ -1099511627776 ≤ n ∧ n ≤ 1099511627776) {f : FuncId}
    (he : ∀ vs w, (callFunc f vs).run Tryz.prog w = .ok (.enter f vs) w)
    (hc : ∀ (n : Int), -1099511627776 ≤ n → n ≤ 1099511627776 → ∀ w, Calls Tryz.prog f #[.int .i64 n] w fun e w' => e = .returned (.int .i64 n) ∧ w' = w) :
    ∀ args vs h E w, VRels σ E args vs.toList → HR σ B gm E h w → pNear ok args h ≠ [] →
    Hx.Enters Tryz.prog f vs w fun u w' => ∃ x ∈ pNear ok args h, ∃ E', VRel σ E' x.1 u ∧ HR σ B gm E' x.2 w' ∧ Tr B E h.objs.get h.next w E' x.2.objs.get x.2.next w' := by
  intro args vs h E w hv H hne
  have back : ∀ (n : Int) (r : AV), -1099511627776 ≤ n → n ≤ 1099511627776 → vs = #[.int .i64 n] → VRel σ E r (.int .i64 n) → (r, h) ∈ pNear ok args h →
      Hx.Enters Tryz.prog f vs w fun u w' => ∃ x ∈ pNear ok args h, ∃ E', VRel σ E' x.1 u ∧ HR σ B gm E' x.2 w' ∧ Tr B E h.objs.get h.next w E' x.2.objs.get x.2.next w' := fun n r h1 h2 hvs hr hm => by
    subst hvs
    exact .inl ⟨he _ _, (hc n h1 h2 w).mono fun e w' ⟨e1, e2⟩ => ⟨_, e1, (r, h), hm, E, hr, by rw [e2]; exact H, by rw [e2]; exact Tr.refl _ _ _ _ H.fresh⟩⟩
  unfold pNear at hne
  split at hne
  · rename_i n
    split at hne
    · rename_i hb
      have hb' := hb
      simp only [Bool.and_eq_true, decide_eq_true_eq] at hb'
      obtain ⟨u, hu, hr⟩ := hv.one_inv
      have hvs : vs = #[u] := by cases vs; simp at hu; rw [hu]
      cases hr
      exact back n (.int .i64 n) hb'.1 hb'.2 hvs (.int _ _) (by show _ ∈ (if _ then _ else _); rw [if_pos hb]; exact List.mem_singleton.2 rfl)
    · exact absurd rfl hne
  · rename_i i
    split at hne
    · rename_i hb
      obtain ⟨n, hn, h1, h2⟩ := hok i hb
      obtain ⟨u, hu, hr⟩ := hv.one_inv
      have hvs : vs = #[u] := by cases vs; simp at hu; rw [hu]
      cases hr
      exact back n (.opq i) h1 h2 (by rw [hvs, hn]) (by rw [← hn]; exact .opq _) (by show _ ∈ (if _ then _ else _); rw [if_pos hb]; exact List.mem_singleton.2 rfl)
    · exact absurd rfl hne
  · exact absurd rfl hne
def keepTimes (i : Nat) : Bool := Nat.beq i 6 || Nat.beq i 9
noncomputable def keepPrims (f : Nat) : Option (List AV → Hx.Heap → List (AV × Hx.Heap)) :=
  if Nat.beq f 35 || Nat.beq f 82 then some (pNear keepTimes) else prims f
theorem keepPrims_ok {σ : Nat → Value} {B : Nat} {gm : Nat → Nat → Option AV} (hok : ∀ i, keepTimes i = true → ∃ n, σ i = .int .i64 n ∧ -1099511627776 ≤ n ∧ n ≤ 1099511627776) (hb : GmB B gm) : PrimOk Tryz.prog σ B gm keepPrims := fun f p h => by
  unfold keepPrims at h
  split at h
  · rename_i e
    cases h
    rcases Bool.or_eq_true_iff.1 e with e | e
    · rw [Nat.eq_of_beq_eq_true e]
      exact prim_near hok (fun vs w => enters_of Tryz.func35 (by kernel_rfl) rfl vs w) fun n h1 h2 w => near35 n h1 h2 w
    · rw [Nat.eq_of_beq_eq_true e]
      exact prim_near hok (fun vs w => enters_of Tryz.func82 (by kernel_rfl) rfl vs w) fun n h1 h2 w => near82 n h1 h2 w
  · exact prims_ok hb f p h
def keepRules : List Rule := [⟨.rem, .opq 0, .int .u8 (.ofNat 20), 3⟩, ⟨.rem, .opq 1, .int .u8 (.ofNat 30), 5⟩, ⟨.rem, .opq 2, .int .u8 (.ofNat 40), 7⟩, ⟨.add, .opq 6, .opq 8, 9⟩, ⟨.gtr, .opq 4, .int .i64 (.ofNat 0), 10⟩, ⟨.sub, .opq 9, .opq 6, 8⟩,
  ⟨.mul, .int .i64 (.ofNat 2), .opq 8, 12⟩, ⟨.mul, .int .i64 (.ofNat 3), .opq 4, 13⟩, ⟨.gtr, .opq 12, .opq 13, 14⟩]
def keepC : List CRule := [⟨.i64, .opq 3, 4⟩, ⟨.i64, .opq 5, 6⟩, ⟨.i64, .opq 7, 8⟩]
noncomputable def keepCh (_ : T AV) (i : Nat) : Option (List AV) := if Nat.beq i 10 || Nat.beq i 14 then some [.bool true, .bool false] else none
noncomputable def keepCx : Cx := { fns := fns, prim := keepPrims, gm := utfMem 1 2, ot := otOf keepRules keepC, ch := keepCh, lets := lets, rounds := 100000 }
end Go.Proofs.YtdbdebcakemmbaaGreatDoor
