/- Regions that draw their order: whole. -/
import Derived.Test.YtdbdebcakemmbaaGreatDoorHxDrawE
namespace Go.Hx
open Go
variable {σ : Nat → Value} {B : Nat} {E E' : Emb} {w w' : World} {P : Program} {R : Type} {A : Ans R} {T : R → Prop} {cx : Cx} {call : Call R}
section
variable {c : DC} {k : Hx.T AV → Heap → R} {L : Array Bool} {a : Act} {done : List (DIn × AV)} {last : Option Nat} {rest : List DIn} {recs : Hx.T Rec} {env : Hx.T AV} {next : Nat} {H : Hx.T AO}
/-- An operation that the executor waits for. -/
theorem DI.stepB (hc : c.Ok) (hT : Ok σ A T) (hσ : OneOpq σ) (hb : GmB B cx.gm) (ho : OtOk c.P σ cx.ot) (hcall : CallOk c.P σ B cx.gm T call) {x : DIn} (d : DI c σ B cx A T call k L a w E done last (x :: rest) recs env next H) (h3 : x.kind = 3)
    (hr : ∀ i, x.bef.testBit i = true → L.getD i false = true) {K : Act → World → Prop} {Q : Exit → Act → World → Prop}
    (hK : ∀ a' w' E' r env' next' H', DI c σ B cx A T call k (L.setIfInBounds x.j true) a' w' E' ((x, r) :: done) (some x.j) rest recs env' next' H' → K a' w') : wpOp c.P c.ops Q x.j K a w := by
  have hxl : x ∈ c.l := d.mem_l.2 (.inr List.mem_cons_self)
  have hlt : x.j < L.size := by rw [d.size]; exact hc.lt hxl
  have hU := d.restU x List.mem_cons_self
  obtain ⟨o, as, gd, hop, hdst, hlooks, hkind, has, hgd, e⟩ := d.head hc hT
  have hgo := d.go
  simp only [dOpers, hop, e] at hgo
  rw [runDraw_cons] at hgo
  dsimp only at hgo
  have hb3 : Nat.beq x.kind 3 = true := by rw [h3]; rfl
  simp only [hb3, if_true] at hgo
  have hlook := d.looks hc hxl hr hU
  have gl : ∀ t, (∃ g b, o.guard = some (g, b) ∧ (c.ops[g]?).bind (·.dst) = some t) → ∀ v, env.get t = some v → ∃ u, a.tmps[t]? = some u ∧ VRel σ E v u := fun t ht v hv => by
    have hm : t ∈ x.looks := by rw [hlooks]; exact guard_looks ht
    exact hlook t hm v (d.canonAt hc hm hv)
  unfold wpOp
  rw [hop]
  dsimp only
  have he0 : E (c.base + x.j) = none := d.freshU _ (hc.lt hxl) hU
  rcases guarded_univ hT hgd hgo with ⟨hrun, hg⟩ | ⟨hskip, hg⟩
  · rw [if_pos (hg E a gl)]
    refine .inl ?_
    obtain ⟨vs, hrun, hv⟩ := evs_univ hT _ _ has _ hrun
    have hv := hv E a fun t ht v hv => by
      have hm : t ∈ x.looks := by rw [hlooks]; exact arg_looks ht
      exact hlook t hm v (d.canonAt hc hm hv)
    obtain ⟨part, h1, h2⟩ := applyWs_sound (delIds (nidsOf c.base (pend 2 x (done.map (·.1))))) H (fun part =>
            if isCall (cOp c.P o.op).1 then doCall A call vs ⟨next, part⟩ fun r h' => afterBar A cx call c.base { o := { dst := o.dst, op := (cOp c.P o.op).1, args := as, guard := gd }, j := x.j, kind := x.kind, reads := pend 1 x (done.map (·.1)), news := pend 2 x (done.map (·.1)) } (dOpers (fun j => match c.ops[j]? with
      | some o => cOper c.P c.ops o
      | none => { dst := none, op := .bad, args := [], guard := none }) (x :: done.map (·.1)) rest) recs env ⟨next, H⟩ k r h'.next h'.objs
            else doSmall A cx (cOp c.P o.op).1 vs part (c.base + x.j) fun r _ objs => afterBar A cx call c.base { o := { dst := o.dst, op := (cOp c.P o.op).1, args := as, guard := gd }, j := x.j, kind := x.kind, reads := pend 1 x (done.map (·.1)), news := pend 2 x (done.map (·.1)) } (dOpers (fun j => match c.ops[j]? with
      | some o => cOper c.P c.ops o
      | none => { dst := none, op := .bad, args := [], guard := none }) (x :: done.map (·.1)) rest) recs env ⟨next, H⟩ k r next objs)
    have hrun := h1 ▸ hrun
    have hgp : ∀ id, part.get id = if id ∈ nidsOf c.base (pend 2 x (done.map (·.1))) then none else H.get id := fun id => by rw [h2, upd_del]
    have pendIn : ∀ p ∈ done, L.getD p.1.j false = false → p.1.kind = 2 → c.base + p.1.j ∈ nidsOf c.base (pend 2 x (done.map (·.1))) := fun p hp hu h2 => by
      refine mem_nids.2 ⟨p.1.j, mem_pend.2 ⟨p.1, List.mem_map.2 ⟨p, hp, rfl⟩, rfl, h2, ?_⟩, rfl⟩
      cases hb : x.bef.testBit p.1.j with
      | false => rfl
      | true => rw [hr _ hb] at hu; cases hu
    have gpSub : ∀ id ob, part.get id = some ob → realG c.base done L H.get id = some ob := fun id ob h => by
      rw [hgp] at h
      split at h
      · cases h
      · rename_i hn
        rw [realG_eq fun p hp hu e => ?_]
        · exact h
        · by_cases h2 : p.1.kind = 2
          · exact hn (e ▸ pendIn p hp hu h2)
          · rw [e, d.noRow0 hc hp hu h2] at h; cases h
    have hpart : HObj σ B E part.get w := d.obj.sub gpSub
    have own : ∀ id ob y, part.get id = some ob → E id = some y → y.1 < w.heap.size ∧ id < next := fun id ob y h hy => by
      obtain ⟨y', a1, b1, c1, _⟩ := hpart.obj id ob h
      have e : y' = y := Option.some.inj (a1.symm.trans hy)
      subst e
      refine ⟨c1, ?_⟩
      rcases Nat.lt_or_ge id next with h' | h'
      · exact h'
      · rw [d.fresh id h'] at hy; cases hy
    by_cases hcl : isCall (cOp c.P o.op).1 = true
    · rw [if_pos hcl] at hrun
      obtain ⟨cc, f, e1, e2, e3⟩ := cOp_call (P := c.P) (op := o.op) (xs := (cOp c.P o.op).2) (Prod.ext (isCall_eq hcl) rfl)
      rw [e3] at hv
      have HR1 : HR σ B cx.gm E ⟨next, part⟩ w := ⟨hpart, d.fresh, d.bsize, d.gm⟩
      refine doCall_sound hT hcall HR1 e1 e2 hv hrun fun r u E' h' w' q1 q2 q3 q4 => ?_
      have hemb := q3.emb d.fresh
      rw [← hdst]
      obtain ⟨H', d'⟩ := d.barDone hc hT h3 hr (o := { dst := o.dst, op := (cOp c.P o.op).1, args := as, guard := gd }) hdst.symm rfl hgp q1 q2.obj hemb q3.le q2.fresh (fun id h _ => q3.keep id h) q3.size q3.frame q2.gm
        (fun j ob y hj hy => by
          rcases Nat.lt_or_ge j next with hl | hl
          · rcases q3.dom j ob hj with h | ⟨o', h⟩
            · have h : next ≤ j := h
              omega
            · exact .inl ⟨o', h, by rw [← q3.keep j hl]; exact hy⟩
          · exact .inr (q3.new j y hl hy).2)
        (fun id ob h => by
          rcases q3.dom id ob h with h | h
          · exact .inl h
          · exact .inr (.inr h))
        (fun g2 hg2 => d.tr.thruCall q3 gpSub hg2) q4
      exact hK _ _ E' r _ _ H' d'
    · have hcl : isCall (cOp c.P o.op).1 = false := by simpa using hcl
      rw [if_neg (by rw [hcl]; simp)] at hrun
      obtain ⟨vs', hv', hne, hall⟩ := doSmall_sound hT hv hrun
      obtain ⟨r, ws, u, w', E', nx, hm, hexec, hnx, hp⟩ := small_sound hσ d.gm ho hpart he0 d.bsize a.eval o hv' hne
      have hk2 := hall _ hm
      obtain ⟨objs, f1, f2⟩ := applyWs_sound ws part (fun objs => afterBar A cx call c.base { o := { dst := o.dst, op := (cOp c.P o.op).1, args := as, guard := gd }, j := x.j, kind := x.kind, reads := pend 1 x (done.map (·.1)), news := pend 2 x (done.map (·.1)) } (dOpers (fun j => match c.ops[j]? with
      | some o => cOper c.P c.ops o
      | none => { dst := none, op := .bad, args := [], guard := none }) (x :: done.map (·.1)) rest) recs env ⟨next, H⟩ k r next objs)
      dsimp only at hk2
      rw [f1] at hk2
      refine wp_of_run hexec hnx ?_
      rw [← hdst]
      have hge := d.nextge
      have hxs := hc.lt hxl
      obtain ⟨H', d'⟩ := d.barDone hc hT h3 hr (o := { dst := o.dst, op := (cOp c.P o.op).1, args := as, guard := gd }) hdst.symm rfl hgp hp.val (by rw [f2]; exact hp.heap) hp.le (Nat.le_refl _) (fun id h => by rw [hp.keep id (by omega)]; exact d.fresh id h) (fun id _ h => hp.keep id h) hp.size hp.frame
        (gm_keep hb d.bsize d.gm fun b hlt => hp.frame b (Nat.lt_of_lt_of_le hlt d.bsize) fun id ob y hid hx => by
          obtain ⟨x', a1, b1, _, _⟩ := hpart.obj id ob hid
          have e : x' = y := Option.some.inj (a1.symm.trans hx)
          subst e
          omega)
        (fun j ob y hj hy => by
          by_cases ej : j = c.base + x.j
          · subst ej
            exact .inr (hp.new y hy).2
          · rw [f2] at hj
            rcases hp.dom j ob hj with h | ⟨o', h⟩
            · exact absurd h ej
            · exact .inl ⟨o', h, by rw [← hp.keep j ej]; exact hy⟩)
        (fun id ob h => by
          rw [f2] at h
          rcases hp.dom id ob h with h | h
          · exact .inr (.inl h)
          · exact .inr (.inr h))
        (fun g2 hg2 => d.tr.post hp gpSub (Nat.le_add_right _ _) fun id ob h => by
          rcases hg2 id ob h with ⟨o', h'⟩ | h'
          · exact .inl ⟨o', by rw [← f2]; exact h'⟩
          · exact .inr h') hk2
      exact hK _ _ E' r _ _ H' d'
  · rw [if_neg (by rw [hg E a gl]; simp)]
    rw [setDst_eq] at hskip
    rw [← hdst] at hskip ⊢
    have nf : ∀ p ∈ done, L.getD p.1.j false = false → c.base + p.1.j ≠ c.base + x.j := fun p hp _ e => d.ne_done hc p hp (by omega)
    have eG : realG c.base ((x, .tup []) :: done) (L.setIfInBounds x.j true) H.get = realG c.base done L H.get := by
      funext id
      by_cases hp : ∃ p ∈ done, L.getD p.1.j false = false ∧ id = c.base + p.1.j
      · obtain ⟨p, h1, h2, rfl⟩ := hp
        rw [realG_none (List.mem_cons_of_mem _ h1) (by rw [getD_set hlt, if_neg (d.ne_done hc p h1)]; exact h2), realG_none h1 h2]
      · rw [realG_eq fun p h1 h2 e => ?_, realG_eq fun p h1 h2 e => hp ⟨p, h1, h2, e⟩]
        rcases List.mem_cons.1 h1 with rfl | h1
        · rw [getD_set hlt, if_pos rfl] at h2; cases h2
        · refine hp ⟨p, h1, ?_, e⟩
          rw [getD_set hlt, if_neg (d.ne_done hc p h1)] at h2
          exact h2
    have up : ∀ i, L.getD i false = true → (L.setIfInBounds x.j true).getD i false = true := fun i h => by
      rw [getD_set hlt]; split <;> first | rfl | exact h
    have down : ∀ i, (L.setIfInBounds x.j true).getD i false = false → L.getD i false = false := fun i h => by
      rw [getD_set hlt] at h; split at h <;> first | cases h | exact h
    refine hK _ _ E (.tup []) (putEnv env x.dst (.tup [])) next H {
      hl := by rw [d.hl]; simp
      ok := by
        have := d.head_ok.1
        rw [if_pos hb3] at this
        exact this
      size := by rw [Array.size_setIfInBounds]; exact d.size
      good := fun y hy hl i hi => by
        rw [getD_set hlt] at hl
        split at hl
        · rename_i e
          have := hc.uniq hy hxl e
          subst this
          exact up i (hr i hi)
        · exact up i (d.good y hy hl i hi)
      restU := fun y hy => by rw [getD_set hlt, if_neg (d.ne_rest y hy).symm]; exact d.restU y (List.mem_cons_of_mem _ hy)
      bars := fun p hp hk => by
        rcases List.mem_cons.1 hp with rfl | hp
        · rw [getD_set hlt, if_pos rfl]
        · exact up _ (d.bars p hp hk)
      defers := by cases x.dst <;> exact d.defers
      tsize := by cases x.dst <;> simp [Act.put, d.tsize]
      real := fun t v h => by
        by_cases ht : x.dst = some t
        · have hput : Holds σ E (a.put x.dst undef) t (.tup []) := by
            rw [ht]
            exact Holds.put_eq (by rw [d.tsize]; exact (hc.dsts x hxl t ht).1) (.tup [] #[] .nil)
          rcases h with ⟨q, h1, h2, h3, h4⟩ | ⟨h1, h2⟩
          · rcases List.mem_cons.1 h1 with rfl | h1
            · rw [← h4]; exact hput
            · exact absurd h2 ((d.ahead.1 q h1 x List.mem_cons_self).dst t ht)
          · have := h1 x hxl ht
            rw [getD_set hlt, if_pos rfl] at this
            cases this
        · refine Holds.put_ne (d.real t v ?_) ht
          rcases h with ⟨q, h1, h2, h3, h4⟩ | ⟨h1, h2⟩
          · rcases List.mem_cons.1 h1 with rfl | h1
            · exact absurd h2 ht
            · refine .inl ⟨q, h1, h2, ?_, h4⟩
              rw [getD_set hlt, if_neg (d.ne_done hc q h1)] at h3
              exact h3
          · exact .inr ⟨fun y hy hd => down _ (h1 y hy hd), h2⟩
      canon := fun t v hu => by
        cases hd : x.dst with
        | none =>
          rw [hd] at hu
          rcases d.canon t v hu with ⟨p, h1, h2⟩ | ⟨h1, h2⟩
          · exact .inl ⟨p, List.mem_cons_of_mem _ h1, h2⟩
          · refine .inr ⟨fun p hp => ?_, h2⟩
            rcases List.mem_cons.1 hp with rfl | hp
            · rw [hd]; simp
            · exact h1 p hp
        | some dd =>
          rw [hd, putEnv_get] at hu
          split at hu
          · rename_i e
            cases hu
            exact .inl ⟨(x, .tup []), List.mem_cons_self, by rw [e]; exact hd, rfl⟩
          · rename_i e
            rcases d.canon t v hu with ⟨p, h1, h2⟩ | ⟨h1, h2⟩
            · exact .inl ⟨p, List.mem_cons_of_mem _ h1, h2⟩
            · refine .inr ⟨fun p hp => ?_, h2⟩
              rcases List.mem_cons.1 hp with rfl | hp
              · rw [hd]; intro h; exact e (Option.some.inj h).symm
              · exact h1 p hp
      tr := by rw [eG]; exact d.tr
      nextge := d.nextge
      obj := by rw [eG]; exact d.obj
      fresh := d.fresh
      freshU := fun j hj h => d.freshU j hj (down j h)
      bsize := d.bsize
      gm := d.gm
      prom := fun p hp h => by
        rcases List.mem_cons.1 hp with rfl | hp
        · rw [getD_set hlt, if_pos rfl] at h; cases h
        · have hu := down _ h
          have hpl : p.1 ∈ c.l := d.mem_l.2 (.inl ⟨p.2, hp⟩)
          refine (d.prom p hp hu).less (fun q hq => List.mem_cons_of_mem _ hq) rfl (fun op vs hk1 hop hs hrec => ⟨fun G2 hG2 => ?_, hrec⟩) (DI.kindOf hc hpl) (fun h3 => by rw [d.bars p hp h3] at hu; cases hu)
          rw [small_reads (g' := H.get) (nid' := 0) hop (fun id hid => hG2 id hid)]
          exact hs
      go := hskip
      recsU := fun y hy => d.recsU y (List.mem_cons_of_mem _ hy) }
/-- All orders. -/
theorem DI.run (hc : c.Ok) (hT : Ok σ A T) (hσ : OneOpq σ) (hb : GmB B cx.gm) (ho : OtOk c.P σ cx.ot) (hcall : CallOk c.P σ B cx.gm T call) (hfree : ∀ d, c.n.mask.testBit d = true → c.env0.get d = none) {Q : Exit → Act → World → Prop}
    (hq : ∀ env' h' E' a' w', EnvR σ E' c.n env' a' → HR σ B cx.gm E' h' w' → Tr B c.E0 c.g0 c.base c.w0 E' h'.objs.get h'.next w' → T (k env' h') → Q .normal a' w') :
    ∀ (fuel : Nat) (L : Array Bool) (a : Act) (w : World) (E : Emb) (done : List (DIn × AV)) (last : Option Nat) (rest : List DIn) (recs : Hx.T Rec) (env : Hx.T AV) (next : Nat) (H : Hx.T AO), DI c σ B cx A T call k L a w E done last rest recs env next H →
      (rest = [] ∨ ∃ x xs, rest = x :: xs ∧ x.kind = 3) → unl L = fuel → wpAny c.P .any c.ops Q fuel L a w := by
  have fin : ∀ (L : Array Bool) (a : Act) (w : World) (E : Emb) (done : List (DIn × AV)) (last : Option Nat) (rest : List DIn) (recs : Hx.T Rec) (env : Hx.T AV) (next : Nat) (H : Hx.T AO), DI c σ B cx A T call k L a w E done last rest recs env next H →
      (∀ j, j < c.ops.size → L.getD j false = true) → Q .normal a w := fun L a w E done last rest recs env next H d hall => by
    have hrest : rest = [] := by
      cases rest with
      | nil => rfl
      | cons x xs =>
        have := d.restU x List.mem_cons_self
        rw [hall _ (hc.lt (d.mem_l.2 (.inr List.mem_cons_self)))] at this
        cases this
    subst hrest
    have eG : realG c.base done L H.get = H.get := by
      funext id
      refine realG_eq fun p hp hu _ => ?_
      rw [hall _ (hc.lt (d.mem_l.2 (.inl ⟨p.2, hp⟩)))] at hu
      cases hu
    have hobj := d.obj
    have htr := d.tr
    rw [eG] at hobj htr
    refine hq env ⟨next, H⟩ E a w ⟨d.defers, d.tsize, fun t v hv => ?_, fun t ht => ?_⟩ ⟨hobj, d.fresh, d.bsize, d.gm⟩ htr d.go
    · refine d.real t v ?_
      rcases d.canon t v hv with ⟨p, h1, h2, h3⟩ | ⟨h1, h2⟩
      · exact .inl ⟨p, h1, h2, hall _ (hc.lt (d.mem_l.2 (.inl ⟨p.2, h1⟩))), h3⟩
      · refine .inr ⟨fun x hx hd => ?_, h2⟩
        rcases d.mem_l.1 hx with ⟨v', h⟩ | h
        · exact absurd hd (h1 _ h)
        · simp at h
    · cases hv : env.get t with
      | none => rfl
      | some v =>
        exfalso
        rcases d.canon t v hv with ⟨p, h1, h2, h3⟩ | ⟨h1, h2⟩
        · rw [(hc.dsts p.1 (d.mem_l.2 (.inl ⟨p.2, h1⟩)) t h2).2] at ht; cases ht
        · rw [hfree t ht] at h2; cases h2
  have closed : ∀ (L : Array Bool) (a : Act) (w : World) (E : Emb) (done : List (DIn × AV)) (last : Option Nat) (rest : List DIn) (recs : Hx.T Rec) (env : Hx.T AV) (next : Nat) (H : Hx.T AO), DI c σ B cx A T call k L a w E done last rest recs env next H →
      ∀ j, j ∈ Region.ready .any c.ops L → ∃ x ∈ c.l, x.j = j ∧ L.getD j false = false ∧ ∀ i, x.bef.testBit i = true → L.getD i false = true := fun L a w E done last rest recs env next H d j hj => by
    obtain ⟨hu, o, ho1, hall⟩ := mem_ready.1 hj
    have hlt : j < c.ops.size := (Array.getElem?_eq_some_iff.1 ho1).1
    obtain ⟨x, hx, rfl⟩ := hc.all j hlt
    have hu' : L.getD x.j false = false := by
      have hl : x.j < L.size := by rw [d.size]; exact hlt
      simp only [Array.getD_eq_getD_getElem?, Array.getElem?_eq_getElem hl, Option.getD_some] at hu ⊢
      exact hu
    refine ⟨x, hx, rfl, hu', fun i hi => ?_⟩
    obtain ⟨o', ho', _, _, _, hbef⟩ := hc.mem x hx
    rw [hbef] at hi
    obtain ⟨e, he1, he2, he3⟩ := before_spec ho1 hi
    have hon := hall e (Array.mem_toList_iff.1 he1) he2
    rcases he3 with rfl | he3
    · exact hon
    · have hlt2 : e.on < c.ops.size := Nat.lt_trans (hc.edges x.j o ho1 e he1 he2) hlt
      obtain ⟨y, hy, hyj⟩ := hc.all e.on hlt2
      obtain ⟨_, _, _, _, _, hbef2⟩ := hc.mem y hy
      refine d.good y hy (by rw [hyj]; exact hon) i ?_
      rw [hbef2, hyj]; exact he3
  have noneReady : ∀ (L : Array Bool) (a : Act) (w : World) (E : Emb) (done : List (DIn × AV)) (last : Option Nat) (rest : List DIn) (recs : Hx.T Rec) (env : Hx.T AV) (next : Nat) (H : Hx.T AO), DI c σ B cx A T call k L a w E done last rest recs env next H →
      Region.ready .any c.ops L = [] → ∀ j, j < c.ops.size → L.getD j false = true := fun L a w E done last rest recs env next H d hnil j => by
    induction j using Nat.strongRecOn with
    | _ j ih =>
      intro hlt
      cases hu : L.getD j false with
      | true => rfl
      | false =>
        exfalso
        obtain ⟨o, ho1⟩ : ∃ o, c.ops[j]? = some o := ⟨c.ops[j], by simp [hlt]⟩
        have hl : j < L.size := by rw [d.size]; exact hlt
        have : j ∈ Region.ready .any c.ops L := mem_ready.2 ⟨by
          simp only [Array.getD_eq_getD_getElem?, Array.getElem?_eq_getElem hl, Option.getD_some] at hu ⊢
          exact hu, o, ho1, fun e he hb => by
            have := hc.edges j o ho1 e (Array.mem_toList_iff.2 he) hb
            exact ih e.on this (by omega)⟩
        rw [hnil] at this
        cases this
  intro fuel
  induction fuel with
  | zero =>
    intro L a w E done last rest recs env next H d _ hf
    have hall := unl_zero hf
    have hnil : Region.ready .any c.ops L = [] := by
      cases hr : Region.ready .any c.ops L with
      | nil => rfl
      | cons j js =>
        have hj : j ∈ Region.ready .any c.ops L := by rw [hr]; exact List.mem_cons_self
        have := (mem_ready.1 hj).1
        rw [hall j] at this
        cases this
    exact ⟨hnil, fin L a w E done last rest recs env next H d (noneReady L a w E done last rest recs env next H d hnil)⟩
  | succ fuel ih =>
    intro L a w E done last rest recs env next H d hrest hf
    refine ⟨fun hnil => fin L a w E done last rest recs env next H d (noneReady L a w E done last rest recs env next H d hnil), fun i hi => ?_⟩
    obtain ⟨x, hx, rfl, hu, hr⟩ := closed L a w E done last rest recs env next H d i hi
    have hlt : x.j < L.size := by rw [d.size]; exact hc.lt hx
    have hf' : unl (L.setIfInBounds x.j true) = fuel := by
      have := unl_set hlt (mem_ready.1 hi).1
      omega
    rcases d.mem_l.1 hx with ⟨v, hp⟩ | hxr
    · exact d.stepQ hc hσ hb ho hp hu hr fun a' w' E' d' => ih _ a' w' E' done last rest recs env next H d' hrest hf'
    · rcases hrest with rfl | ⟨y, ys, rfl, hy3⟩
      · simp at hxr
      · have hxy : x = y := by
          rcases List.mem_cons.1 hxr with h | h
          · exact h
          · exfalso
            have hok := d.head_ok.1
            rw [if_pos (by rw [hy3]; rfl)] at hok
            have := dOk_last (S := fun i => L.getD i false = true) ys _ _ hok (fun z hz hl i hi => d.good z (d.mem_l.2 (.inr (List.mem_cons_of_mem _ hz))) hl i hi) x h hr
            rw [d.restU y List.mem_cons_self] at this
            cases this
        subst hxy
        refine d.stepB hc hT hσ hb ho hcall hy3 hr fun a' w' E' r env' next' H' d' => ?_
        obtain ⟨done2, rest2, recs2, env2, H2, d2, h2⟩ := DI.adv hc hT ho ys d'
        exact ih _ a' w' E' done2 _ rest2 recs2 env2 next' H2 d2 h2 hf'
end
end Go.Hx
/- Regions that draw their order: as the executor meets them. -/
namespace Go.Hx
open Go
variable {σ : Nat → Value} {B : Nat} {E E' : Emb} {w w' : World} {P : Program} {R : Type} {A : Ans R} {T : R → Prop} {cx : Cx} {call : Call R}
theorem dOk_self : ∀ (rest done : List DIn) (last : Option Nat), dOk done last rest = true → ∀ x ∈ rest, x.bef.testBit x.j = false
  | [], _, _, _, x, hx => by simp at hx
  | z :: zs, done, last, h, x, hx => by
    simp only [dOk, Bool.and_eq_true] at h
    rcases List.mem_cons.1 hx with rfl | hx
    · exact (dOk1_spec h.1).2.2
    · exact dOk_self zs _ _ h.2 x hx
theorem edgesOk_spec {ops : Array Oper} (h : edgesOk ops = true) : ∀ (j : Nat) (o : Oper), ops[j]? = some o → ∀ e ∈ o.after.toList, Region.binds .any e = true → e.on < j := fun j o ho e he hb => by
  unfold edgesOk at h
  have hm : (o, j) ∈ ops.toList.zipIdx := by
    rw [List.mk_mem_zipIdx_iff_getElem?]
    simpa using ho
  have := List.all_eq_true.1 (List.all_eq_true.1 h _ hm) e he
  simp only [hb, Bool.not_true, Bool.false_or] at this
  exact Nat.le_of_ble_eq_true this
theorem unl_new (n : Nat) : unl (Array.replicate n false) = n := by
  unfold unl
  rw [Array.size_replicate]
  have : (List.range n).countP (fun j => !(Array.replicate n false).getD j true) = (List.range n).length := by
    rw [List.countP_eq_length]
    intro j hj
    have hj := List.mem_range.1 hj
    simp [Array.getD_eq_getD_getElem?, hj]
  rw [this, List.length_range]
theorem draw_ok (hm : P.follows .mixedOrders = true) (hT : Ok σ A T) (hσ : OneOpq σ) (hb : GmB B cx.gm) (ho : OtOk P σ cx.ot) (hcall : CallOk P σ B cx.gm T call) : DrawOk P σ B T A cx call := by
  intro n id ops Q env h E a w k hdst he H kx kr hk hq
  have hk : T (exec A cx call (cDraw P n.mask ops) env h k kx kr) := hk
  unfold cDraw at hk
  dsimp only at hk
  split at hk
  case isFalse => exact (hT.fail _ hk).elim
  rename_i hchk
  simp only [Bool.and_eq_true] at hchk
  obtain ⟨⟨⟨h1, h2⟩, h3⟩, h4⟩ := hchk
  let c : DC := { P := P, ops := ops, l := order (dIns P ops), n := n, base := h.next, env0 := env, E0 := E, g0 := h.objs.get, w0 := w }
  have hpairs := (dOk_pairs _ _ _ h4).2
  have hc : c.Ok := {
    mem := fun x hx => mem_dIns (mem_order hx)
    all := fun j hj => by
      have := List.all_eq_true.1 h3 j (List.mem_range.2 hj)
      obtain ⟨x, hx, e⟩ := List.any_eq_true.1 this
      exact ⟨x, hx, Nat.eq_of_beq_eq_true e⟩
    edges := edgesOk_spec h1
    pairs := hpairs
    self := dOk_self _ _ _ h4
    dsts := fun x hx d hd => by
      obtain ⟨o, ho1, hd', _⟩ := mem_dIns (mem_order hx)
      have hmem : o ∈ ops.toList := by
        have : ops.toList[x.j]? = some o := by simpa using ho1
        exact List.mem_of_getElem? this
      have hod : o.dst = some d := by rw [← hd']; exact hd
      refine ⟨hdst o hmem d hod, ?_⟩
      have := List.all_eq_true.1 h2 o hmem
      rw [hod] at this
      simpa using this }
  have hk2 : T (force (h.next + ops.size) fun n => runDraw A cx call h.next (dOpers (fun j => match ops[j]? with
      | some o => cOper P ops o
      | none => { dst := none, op := .bad, args := [], guard := none }) [] (order (dIns P ops))) .nil env ⟨n, h.objs⟩ k) := hk
  rw [force_eq] at hk2
  have hL : ∀ j, (Array.replicate ops.size false).getD j false = false := fun j => by
    by_cases hj : j < ops.size
    · simp [Array.getD_eq_getD_getElem?, hj]
    · simp [Array.getD_eq_getD_getElem?, hj]
  have eG : realG h.next [] (Array.replicate ops.size false) h.objs.get = h.objs.get := by
    funext id
    exact realG_eq fun p hp => by simp at hp
  let w1 : World := { w with drawn := w.drawn + 1 }
  have d : DI c σ B cx A T call k (Array.replicate ops.size false) a w1 E [] none (order (dIns P ops)) .nil env (h.next + ops.size) h.objs := {
    hl := rfl
    ok := h4
    size := Array.size_replicate
    good := fun x _ hl => by rw [hL] at hl; cases hl
    restU := fun x _ => hL _
    bars := fun p hp => by simp at hp
    defers := he.defers
    tsize := he.size
    real := fun t v hv => by
      rcases hv with ⟨p, hp, _⟩ | ⟨_, hv⟩
      · simp at hp
      · exact he.val t v hv
    canon := fun t v hv => .inr ⟨fun p hp => by simp at hp, hv⟩
    tr := by
      show Tr B E h.objs.get h.next w E (realG h.next [] (Array.replicate ops.size false) h.objs.get) (h.next + ops.size) w1
      rw [eG]
      exact ⟨fun _ _ => rfl, Nat.le_add_right _ _, Nat.le_refl _, fun _ _ _ => rfl, rfl, rfl, rfl, (fun id x hid hx => by rw [H.fresh id hid] at hx; cases hx), fun id o hid => .inr ⟨o, hid⟩⟩
    nextge := Nat.le_refl _
    obj := by
      show HObj σ B E (realG h.next [] (Array.replicate ops.size false) h.objs.get) w1
      rw [eG]
      exact H.obj.heap rfl
    fresh := fun id hid => H.fresh id (by omega)
    freshU := fun j _ _ => H.fresh _ (Nat.le_add_right _ _)
    bsize := H.size
    gm := H.gm
    prom := fun p hp => by simp at hp
    go := hk2
    recsU := fun _ _ => rfl }
  obtain ⟨done2, rest2, recs2, env2, H2, d2, hr2⟩ := DI.adv hc hT ho _ d
  refine wp_region_any hm ?_
  exact DI.run (c := c) hc hT hσ hb ho hcall he.free (fun env' h' E' a' w' e1 e2 e3 e4 => hq env' h' E' a' w' e1 e2 e3 e4) ops.size _ _ _ _ _ _ _ _ _ _ _ d2 hr2 (unl_new _)
end Go.Hx
