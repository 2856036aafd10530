/- BrokerSessions: the contract, from the walk. -/
import Derived.Test.YtdbdebcakemmbaaGreatDoorHxSessW
namespace Go.Proofs.YtdbdebcakemmbaaGreatDoor
open Go Go.Hx Go.RowKit Go.ChangeShapes Go.WideShapes Go.ChangeAt Go.Lib
theorem sess_laid (os : Os) (args : Array Value) : laidMet Tryz.prog Rows.brokerSessionsRow.laid ((laidWorld os).forCall (fun _ _ => 0) ⟨#[], args, []⟩).memory :=
  (LaidIn.of_run (l := Rows.brokerSessionsRow.laid) [0, 1, 2, 4, 5] 8 (by kernel_rfl) (by kernel_rfl) (by kernel_rfl) (by kernel_rfl)).met
theorem sess_witness (os : Os) {H : Type} (enc : TypeId × Value → H) :
    (OpenSpec.ofChange Rows.brokerSessionsSpec).preRow enc Tryz.prog Tryz.f10 Rows.brokerSessionsRow.domain false Rows.brokerSessionsRow.laid ((laidWorld os).forCall (fun _ _ => 0) ⟨#[], #[.bool false, .bool false, .int .u8 0, .int .u8 0], []⟩).memory #[.bool false, .bool false, .int .u8 0, .int .u8 0] := by
  have hw : (DataW.whole enc Tryz.prog ((laidWorld os).forCall (fun _ _ => 0) ⟨#[], #[.bool false, .bool false, .int .u8 0, .int .u8 0], []⟩).memory Tryz.f10.params.toList Rows.brokerSessionsSpec.vars false #[Value.bool false, Value.bool false, Value.int .u8 0, Value.int .u8 0].toList 8).map (fun x => (x.1, x.2.1)) =
      some ([.lit (.bool false), .lit (.bool false), .lit (.int .u8 0), .lit (.int .u8 0)], []) := by kernel_rfl
  obtain ⟨⟨x1, x2, x3⟩, hx, hx1⟩ := Option.map_eq_some_iff.1 hw
  simp only [Prod.mk.injEq] at hx1
  obtain ⟨rfl, rfl⟩ := hx1
  exact OpenSpec.preRow_of_cond 8 hx (by kernel_rfl) (fun k hk => by cases hk) (by kernel_rfl) (sess_laid os _)
set_option maxRecDepth 100000 in
set_option maxHeartbeats 2000000 in
theorem sess_lifted (os : Os) (started : os.Started) (H : Type) (enc : TypeId × Value → H) (F : Stop.Interp) :
    ReturnsInHanded {} Tryz.checked os 10 .any ((OpenSpec.ofChange Rows.brokerSessionsSpec).preRow enc Tryz.prog Tryz.f10 Rows.brokerSessionsRow.domain false Rows.brokerSessionsRow.laid) (((OpenSpec.ofChange Rows.brokerSessionsSpec).at F).post enc Tryz.prog Tryz.f10 false true false false) := by
  refine returnsInHanded_of_row (C := Tryz.checked) (s := OpenSpec.ofChange Rows.brokerSessionsSpec) own started (by kernel_rfl) Tryz.func10
    (witness_row_atRef (enc := enc) (C := Tryz.checked) false (laidWorld os) #[.bool false, .bool false, .int .u8 0, .int .u8 0] rfl (by kernel_rfl) (by kernel_rfl) (by kernel_rfl) (sess_witness os enc)) ?_
  intro W base args ds gs before hval0 hW _ _ _ hL _ _
  have hval : ∀ (j : Nat) t v, Tryz.f10.params[j]? = some t → args[j]? = some v → Value.okWide Tryz.prog W .any base t v := hval0
  have hW' := hW
  obtain ⟨p, q, hA0, hV0, rfl, _, _⟩ := hW
  have hA : DataW.TrodAll enc Tryz.prog W 0 (fun _ => true) true Tryz.f10.params.toList args.toList ds p := hA0
  rw [Tryz.params10] at hA hval
  obtain ⟨v0, vs0, d0, ds0, p0, q0, hargs, rfl, rfl, h0, r0⟩ := trodAll_cons hA
  obtain ⟨v1, vs1, d1, ds1, p1, q1, rfl, rfl, rfl, h1, r1⟩ := trodAll_cons r0
  obtain ⟨v2, vs2, d2, ds2, p2, q2, rfl, rfl, rfl, h2, r2⟩ := trodAll_cons r1
  obtain ⟨v3, vs3, d3, ds3, p3, q3, rfl, rfl, rfl, h3, r3⟩ := trodAll_cons r2
  obtain ⟨rfl, rfl, rfl⟩ := trodAll_nil r3
  obtain rfl : args = #[v0, v1, v2, v3] := by cases args; simp_all
  obtain ⟨rfl, rfl⟩ := trodVars_none hV0
  obtain ⟨c, rfl, rfl, rfl⟩ := open_bool Tryz.underlying4 (hval 0 4 v0 rfl rfl) h0
  obtain ⟨a, rfl, rfl, rfl⟩ := open_bool Tryz.underlying4 (hval 1 4 v1 rfl rfl) h1
  obtain ⟨k, rfl, rfl, rfl, w2⟩ := open_int Tryz.underlying5 (hval 2 5 v2 rfl rfl) h2
  obtain ⟨r, rfl, rfl, rfl, w3⟩ := open_int Tryz.underlying5 (hval 3 5 v3 rfl rfl) h3
  clear hA0 hV0 hval0
  have htab : Utf8Tabs 1 2 W := tabs (Lib.laidMet.reads hL (by simp [Rows.brokerSessionsRow])) (Lib.laidMet.reads hL (by simp [Rows.brokerSessionsRow]))
  refine (sess_walk W htab c a k r w2 w3).mono ?_
  rintro e W' ⟨rfl, bel⟩
  have e1 : ((OpenSpec.ofChange Rows.brokerSessionsSpec).at F).fn H ([.lit (.bool c), .lit (.bool a), .lit (.int .u8 k), .lit (.int .u8 r)] ++ []) = { results := [.lit (.bool true)], args := [.lit (.bool c), .lit (.bool a), .lit (.int .u8 k), .lit (.int .u8 r)] } := rfl
  refine ⟨_, rfl, _, _, _, [], [], [], hW', ?_, ?_, ?_, bel.frame _, fun h => by cases h⟩
  · rw [e1]; exact trodAll_mk1 (shut_bool Tryz.underlying4 _)
  · rw [e1]; exact trodAll_cons_mk (p := []) (shut_bool Tryz.underlying4 _) (trodAll_cons_mk (p := []) (shut_bool Tryz.underlying4 _) (trodAll_cons_mk (p := []) (shut_int Tryz.underlying5 w2) (trodAll_cons_mk (p := []) (shut_int Tryz.underlying5 w3) trodAll_mk0)))
  · rw [e1]; rfl
end Go.Proofs.YtdbdebcakemmbaaGreatDoor
