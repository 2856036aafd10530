/- Regions that draw their order: a step of the run. -/
import Derived.Test.YtdbdebcakemmbaaGreatDoorHxDrawC
namespace Go.Hx
open Go
variable {σ : Nat → Value} {B : Nat} {E E' : Emb} {w w' : World} {P : Program} {R : Type} {A : Ans R} {T : R → Prop} {cx : Cx} {call : Call R}

theorem VRel.ids {v : AV} {u : Value} (h : VRel σ E v u) : ∀ id ∈ avIds v, ∃ x, E id = some x := by
  cases h <;> intro id hid <;> simp [avIds] at hid
  case ptr h => subst hid; exact ⟨_, h⟩
  case slice h _ _ => subst hid; exact ⟨_, h⟩
  case slice0 h _ => subst hid; exact ⟨_, h⟩
  case slice00 h => subst hid; exact ⟨_, h⟩
  case map h => subst hid; exact ⟨_, h⟩
theorem VRels.ids : ∀ {vs : List AV} {us : List Value}, VRels σ E vs us → ∀ id ∈ avsIds vs, ∃ x, E id = some x
  | [], _, _, id, hid => by simp [avsIds] at hid
  | v :: vs, _, h, id, hid => by
    cases h with
    | cons _ u _ us h hs =>
      simp only [avsIds, List.mem_append] at hid
      rcases hid with hid | hid
      · exact h.ids id hid
      · exact hs.ids id hid
theorem getD_set {L : Array Bool} {i j : Nat} (hi : i < L.size) : (L.setIfInBounds i true).getD j false = if j = i then true else L.getD j false := by
  by_cases h : j = i
  · subst h; simp [Array.getD_eq_getD_getElem?, Array.getElem?_setIfInBounds_self_of_lt hi]
  · simp only [Array.getD_eq_getD_getElem?]
    rw [Array.getElem?_setIfInBounds_ne (fun e => h e.symm), if_neg h]

section
variable {c : DC} {k : Hx.T AV → Heap → R} {L : Array Bool} {a : Act} {done : List (DIn × AV)} {last : Option Nat} {rest : List DIn} {recs : Hx.T Rec} {env : Hx.T AV} {next : Nat} {H : Hx.T AO}
/-- The frame behind an operation that the executor had behind it. -/
theorem DI.realPut (hc : c.Ok) (d : DI c σ B cx A T call k L a w E done last rest recs env next H) (he : Emb.le E E') {p : DIn × AV} (hp : p ∈ done) {u : Value} (hv : VRel σ E' p.2 u) :
    ∀ t v, RealV c.l done (L.setIfInBounds p.1.j true) c.env0 t v → Holds σ E' (a.put p.1.dst u) t v := by
  have hpl : p.1 ∈ c.l := d.mem_l.2 (.inl ⟨p.2, hp⟩)
  have hlt : p.1.j < L.size := by rw [d.size]; exact hc.lt hpl
  intro t v h
  by_cases ht : p.1.dst = some t
  · have hput : Holds σ E' (a.put p.1.dst u) t p.2 := by
      rw [ht]
      exact Holds.put_eq (by rw [d.tsize]; exact (hc.dsts p.1 hpl t ht).1) hv
    rcases h with ⟨q, h1, h2, h3, h4⟩ | ⟨h1, h2⟩
    · have hql : q.1 ∈ c.l := d.mem_l.2 (.inl ⟨q.2, h1⟩)
      have e : q.1 = p.1 := by
        rcases pairwise_tri hc.pairs hql hpl with e | e | e
        · exact e
        · exact absurd h2 (e.dst t ht)
        · exact absurd ht (e.dst t h2)
      have e2 : q = p := by
        have hpd : (done.map (·.1)).reverse.Pairwise Ahead := by
          have := hc.pairs
          rw [d.hl] at this
          exact (List.pairwise_append.1 this).1
        have hnd : ∀ (l : List (DIn × AV)), (l.map (·.1)).reverse.Pairwise Ahead → ∀ x ∈ l, ∀ y ∈ l, x.1 = y.1 → x = y := by
          intro l
          induction l with
          | nil => intro _ x hx; simp at hx
          | cons z l ih =>
            intro hl x hx y hy hxy
            simp only [List.map_cons, List.reverse_cons] at hl
            have hl' := List.pairwise_append.1 hl
            have no : ∀ x ∈ l, x.1 ≠ z.1 := fun x hx e => (hl'.2.2 x.1 (List.mem_reverse.2 (List.mem_map.2 ⟨x, hx, rfl⟩)) z.1 List.mem_cons_self).ne (by rw [e])
            rcases List.mem_cons.1 hx with rfl | hx' <;> rcases List.mem_cons.1 hy with rfl | hy'
            · rfl
            · exact absurd hxy.symm (no y hy')
            · exact absurd hxy (no x hx')
            · exact ih hl'.1 x hx' y hy' hxy
        exact hnd done hpd q h1 p hp e
      rw [e2] at h4
      rw [← h4]; exact hput
    · have := h1 p.1 hpl ht
      rw [getD_set hlt, if_pos rfl] at this
      cases this
  · refine Holds.put_ne ((d.real t v ?_).mono he) ht
    rcases h with ⟨q, h1, h2, h3, h4⟩ | ⟨h1, h2⟩
    · refine .inl ⟨q, h1, h2, ?_, h4⟩
      rw [getD_set hlt] at h3
      split at h3
      · rename_i e
        have hql : q.1 ∈ c.l := d.mem_l.2 (.inl ⟨q.2, h1⟩)
        have := hc.uniq hql hpl e
        rw [this] at h2
        exact absurd h2 ht
      · exact h3
    · refine .inr ⟨fun x hx hd => ?_, h2⟩
      have := h1 x hx hd
      rw [getD_set hlt] at this
      split at this
      · cases this
      · exact this
/-- What the executor had behind it comes in the run. -/
theorem DI.comes (hc : c.Ok) (d : DI c σ B cx A T call k L a w E done last rest recs env next H) {p : DIn × AV} (hp : p ∈ done) (hu : L.getD p.1.j false = false) (hr : ∀ i, p.1.bef.testBit i = true → L.getD i false = true)
    {u : Value} (hv : VRel σ E' p.2 u) (he : Emb.le E E') (hkeep : ∀ id, id ≠ c.base + p.1.j → E' id = E id)
    (htr : Tr B c.E0 c.g0 c.base c.w0 E' (realG c.base done (L.setIfInBounds p.1.j true) H.get) next w') (hobj : HObj σ B E' (realG c.base done (L.setIfInBounds p.1.j true) H.get) w') (hB : B ≤ w'.heap.size) (hgm : GmOk σ cx.gm w') :
    DI c σ B cx A T call k (L.setIfInBounds p.1.j true) (a.put p.1.dst u) w' E' done last rest recs env next H := by
  have hpl : p.1 ∈ c.l := d.mem_l.2 (.inl ⟨p.2, hp⟩)
  have hlt : p.1.j < L.size := by rw [d.size]; exact hc.lt hpl
  have up : ∀ i, L.getD i false = true → (L.setIfInBounds p.1.j true).getD i false = true := fun i h => by
    rw [getD_set hlt]; split <;> first | rfl | exact h
  have down : ∀ i, (L.setIfInBounds p.1.j true).getD i false = false → L.getD i false = false := fun i h => by
    rw [getD_set hlt] at h; split at h <;> first | cases h | exact h
  have hrest : ∀ x ∈ rest, x.j ≠ p.1.j := fun x hx => ((d.ahead.1 p hp x hx).ne).symm
  exact {
    hl := d.hl
    ok := d.ok
    size := by rw [Array.size_setIfInBounds]; exact d.size
    good := fun x hx hl i hi => by
      rw [getD_set hlt] at hl
      split at hl
      · rename_i e
        have := hc.uniq hx hpl e
        subst this
        exact up i (hr i hi)
      · exact up i (d.good x hx hl i hi)
    restU := fun x hx => by rw [getD_set hlt, if_neg (hrest x hx)]; exact d.restU x hx
    bars := fun q hq h3 => up _ (d.bars q hq h3)
    defers := by cases p.1.dst <;> exact d.defers
    tsize := by cases p.1.dst <;> simp [Act.put, d.tsize]
    real := d.realPut hc he hp hv
    canon := d.canon
    tr := htr
    nextge := d.nextge
    obj := hobj
    fresh := fun id h => by
      rw [hkeep id (fun e => by have := d.nextge; have := hc.lt hpl; omega)]; exact d.fresh id h
    freshU := fun j hj h => by
      have hne : j ≠ p.1.j := fun e => by rw [getD_set hlt, if_pos e] at h; cases h
      rw [hkeep _ (by omega)]; exact d.freshU j hj (down j h)
    bsize := hB
    gm := hgm
    prom := fun q hq h => d.prom q hq (down _ h)
    go := d.go
    recsU := d.recsU }
theorem DI.stepQ (hc : c.Ok) (hσ : OneOpq σ) (hb : GmB B cx.gm) (ho : OtOk c.P σ cx.ot) (d : DI c σ B cx A T call k L a w E done last rest recs env next H) {p : DIn × AV} (hp : p ∈ done) (hu : L.getD p.1.j false = false) (hr : ∀ i, p.1.bef.testBit i = true → L.getD i false = true)
    {K : Act → World → Prop} {Q : Exit → Act → World → Prop} (hK : ∀ a' w' E', DI c σ B cx A T call k (L.setIfInBounds p.1.j true) a' w' E' done last rest recs env next H → K a' w') : wpOp c.P c.ops Q p.1.j K a w := by
  have hpl : p.1 ∈ c.l := d.mem_l.2 (.inl ⟨p.2, hp⟩)
  have hlt : p.1.j < L.size := by rw [d.size]; exact hc.lt hpl
  obtain ⟨o, ho1, h⟩ := d.prom p hp hu
  obtain ⟨o', ho', hdst, _, hkind, _⟩ := hc.mem p.1 hpl
  have : o' = o := Option.some.inj (ho'.symm.trans ho1)
  subst this
  have hlook := d.looks hc hpl hr hu
  have hEn : E (c.base + p.1.j) = none := d.freshU _ (hc.lt hpl) hu
  have gnone : realG c.base done L H.get (c.base + p.1.j) = none := realG_none hp hu
  -- the rows, one more there
  have eG : ∀ id, realG c.base done (L.setIfInBounds p.1.j true) H.get id = if id = c.base + p.1.j then H.get id else realG c.base done L H.get id := fun id => by
    by_cases e : id = c.base + p.1.j
    · rw [if_pos e]
      refine realG_eq fun q hq h1 h2 => ?_
      have : q.1.j = p.1.j := by omega
      rw [getD_set hlt, if_pos this] at h1
      cases h1
    · rw [if_neg e]
      unfold realG
      by_cases h : ∃ q ∈ done, L.getD q.1.j false = false ∧ id = c.base + q.1.j
      · rw [if_pos h]
        obtain ⟨q, h1, h2, h3⟩ := h
        rw [if_pos ⟨q, h1, by rw [getD_set hlt, if_neg (by omega)]; exact h2, h3⟩]
      · rw [if_neg h, if_neg]
        rintro ⟨q, h1, h2, h3⟩
        refine h ⟨q, h1, ?_, h3⟩
        rw [getD_set hlt, if_neg (by omega)] at h2
        exact h2
  unfold wpOp
  rw [ho1]
  dsimp only
  rcases h with ⟨hw, hv, hrow⟩ | ⟨vs, ws, hw, hsm, hrow, _⟩
  · rw [if_neg (by rw [hw E a hlook]; simp)]
    have e2 : realG c.base done (L.setIfInBounds p.1.j true) H.get = realG c.base done L H.get := by
      funext id
      rw [eG]
      split
      · rename_i e; rw [e, hrow, gnone]
      · rfl
    rw [← hdst]
    exact hK _ _ E (d.comes hc hp hu hr (by rw [hv]; exact .tup [] #[] .nil) (Emb.le.refl E) (fun _ _ => rfl) (by rw [e2]; exact d.tr) (by rw [e2]; exact d.obj) d.bsize d.gm)
  · obtain ⟨hw, hvs⟩ := hw E a hlook
    rw [if_pos hw]
    refine .inl ?_
    have hs := hsm (realG c.base done L H.get) fun _ id hid => by
      obtain ⟨x, hx⟩ := hvs.ids id hid
      refine realG_eq fun q hq h1 h2 => ?_
      rw [h2, d.freshU _ (hc.lt (d.mem_l.2 (.inl ⟨q.2, hq⟩))) h1] at hx
      cases hx
    obtain ⟨r, ws', u, w', E', nx, hm, hrun, hnx, hpost⟩ := small_sound hσ d.gm ho d.obj hEn d.bsize a.eval o' hvs (by rw [hs]; simp)
    rw [hs] at hm
    have hm := List.mem_singleton.1 hm
    cases hm
    refine wp_of_run hrun hnx ?_
    have e2 : realG c.base done (L.setIfInBounds p.1.j true) H.get = upd (realG c.base done L H.get) ws := by
      funext id
      rw [eG]
      rcases hrow with ⟨rfl, h⟩ | ⟨ob, rfl, h⟩
      · show _ = realG c.base done L H.get id
        split
        · rename_i e; rw [e, h, gnone]
        · rfl
      · show _ = upd1 _ _ _ id
        unfold upd1
        split
        · rename_i e; rw [e, h]
        · rfl
    rw [← hdst]
    refine hK _ _ E' (d.comes hc hp hu hr hpost.val hpost.le hpost.keep ?_ (by rw [e2]; exact hpost.heap) (Nat.le_trans d.bsize hpost.size) (gm_keep hb d.bsize d.gm fun b hlt => hpost.frame b (Nat.lt_of_lt_of_le hlt d.bsize) fun id o x hid hx => ?_))
    · rw [e2]
      exact d.tr.post hpost (fun _ _ h => h) (Nat.le_add_right _ _) fun id o h => .inl ⟨o, h⟩
    · obtain ⟨x', a1, b1, _, _⟩ := d.obj.obj id o hid
      have e : x' = x := Option.some.inj (a1.symm.trans hx)
      subst e
      omega
end
end Go.Hx
/- Regions that draw their order: the steps that the executor waits for; the whole. -/
namespace Go.Hx
open Go
variable {σ : Nat → Value} {B : Nat} {E E' : Emb} {w w' : World} {P : Program} {R : Type} {A : Ans R} {T : R → Prop} {cx : Cx} {call : Call R}

theorem small_ws0 {gm : Nat → Nat → Option AV} {ot : MOp → List AV → Option AV} {op : MOp} {g : Nat → Option AO} {nid : Nat} {vs : List AV} (h0 : kindOf op = 0) : ∀ x ∈ small gm ot op g nid vs, x.2 = [] := by
  have ho : ∀ (v : Option AV), ∀ x ∈ ones v, x.2 = [] := fun v x hx => by
    cases v with
    | none => simp [ones] at hx
    | some v => simp [ones] at hx; rw [hx]
  have h1' : ∀ (v : AV), ∀ x ∈ one v, x.2 = [] := fun v x hx => by simp [one] at hx; rw [hx]
  intro x hx
  cases op <;> first | cases h0 | skip
  all_goals (simp only [small] at hx; repeat' split at hx) <;> first | exact ho _ _ hx | exact h1' _ _ hx | simp at hx
theorem mem_pend {k : Nat} {x : DIn} {j : Nat} : ∀ {l : List DIn}, j ∈ pend k x l ↔ ∃ y ∈ l, y.j = j ∧ y.kind = k ∧ x.bef.testBit y.j = false
  | [] => by simp [pend]
  | y :: ys => by
    unfold pend
    have ih := mem_pend (k := k) (x := x) (j := j) (l := ys)
    split
    · rename_i h
      simp only [Bool.and_eq_true, Bool.not_eq_true'] at h
      rw [List.mem_cons, ih]
      constructor
      · rintro (rfl | ⟨z, h1, h2⟩)
        · exact ⟨y, List.mem_cons_self, rfl, Nat.eq_of_beq_eq_true h.1, h.2⟩
        · exact ⟨z, List.mem_cons_of_mem _ h1, h2⟩
      · rintro ⟨z, h1, h2, h3⟩
        rcases List.mem_cons.1 h1 with rfl | h1
        · exact .inl h2.symm
        · exact .inr ⟨z, h1, h2, h3⟩
    · rename_i h
      rw [ih]
      constructor
      · rintro ⟨z, h1, h2⟩; exact ⟨z, List.mem_cons_of_mem _ h1, h2⟩
      · rintro ⟨z, h1, h2, h3, h4⟩
        rcases List.mem_cons.1 h1 with rfl | h1
        · exact absurd (by simp [h3, h4]) h
        · exact ⟨z, h1, h2, h3, h4⟩
theorem mem_nids {base id : Nat} : ∀ {l : List Nat}, id ∈ nidsOf base l ↔ ∃ j ∈ l, id = base + j
  | [] => by simp [nidsOf]
  | j :: l => by simp [nidsOf, mem_nids (l := l)]
theorem upd_del (g : Nat → Option AO) : ∀ (ids : List Nat) (id : Nat), upd g (delIds ids) id = if id ∈ ids then none else g id
  | [], id => by simp [delIds, upd]
  | j :: ids, id => by
    simp only [delIds, upd]
    rw [upd_del (upd1 g j none) ids id]
    by_cases h : id ∈ ids
    · rw [if_pos h, if_pos (List.mem_cons_of_mem _ h)]
    · rw [if_neg h]
      unfold upd1
      by_cases e : id = j
      · rw [if_pos e, if_pos (by rw [e]; exact List.mem_cons_self)]
      · rw [if_neg e, if_neg (fun h' => (List.mem_cons.1 h').elim e h)]
theorem upd_back (t : Hx.T AO) : ∀ (ids : List Nat) (g : Nat → Option AO) (id : Nat), upd g (backIds t ids) id = if id ∈ ids then t.get id else g id
  | [], g, id => by simp [backIds, upd]
  | j :: ids, g, id => by
    have e0 : backIds t (j :: ids) = (j, t.get j) :: backIds t ids := rfl
    rw [e0]
    simp only [upd]
    rw [upd_back t ids]
    by_cases h : id ∈ ids
    · rw [if_pos h, if_pos (List.mem_cons_of_mem _ h)]
    · rw [if_neg h]
      unfold upd1
      by_cases e : id = j
      · rw [if_pos e, if_pos (by rw [e]; exact List.mem_cons_self), e]
      · rw [if_neg e, if_neg (fun h' => (List.mem_cons.1 h').elim e h)]

section
variable {c : DC} {k : Hx.T AV → Heap → R} {L : Array Bool} {a : Act} {done : List (DIn × AV)} {last : Option Nat} {rest : List DIn} {recs : Hx.T Rec} {env : Hx.T AV} {next : Nat} {H : Hx.T AO}
/-- Who is promised and makes no row has none. -/
theorem DI.noRow0 (hc : c.Ok) (d : DI c σ B cx A T call k L a w E done last rest recs env next H) {p : DIn × AV} (hp : p ∈ done) (hu : L.getD p.1.j false = false) (h2 : p.1.kind ≠ 2) : H.get (c.base + p.1.j) = none := by
  obtain ⟨o, ho1, h⟩ := d.prom p hp hu
  have hpl : p.1 ∈ c.l := d.mem_l.2 (.inl ⟨p.2, hp⟩)
  have hk := DI.kindOf hc hpl o ho1
  rcases h with ⟨_, _, h⟩ | ⟨vs, ws, _, hsm, hrow, h1⟩
  · exact h
  · rcases hrow with ⟨_, h⟩ | ⟨ob, hw, h⟩
    · exact h
    · exfalso
      have hs := hsm H.get fun _ _ _ => rfl
      have hm : (p.2, ws) ∈ small cx.gm cx.ot (cOp c.P o.op).1 H.get (c.base + p.1.j) vs := by rw [hs]; exact List.mem_singleton.2 rfl
      have hw0 : ws = [] := by
        by_cases e1 : p.1.kind = 1
        · exact (h1 e1).1
        · have e3 : p.1.kind ≠ 3 := fun e3 => by rw [d.bars p hp e3] at hu; cases hu
          have e0 : p.1.kind = 0 := by
            have hle : Hx.kindOf (cOp c.P o.op).1 ≤ 3 := by unfold Hx.kindOf; split <;> omega
            omega
          exact small_ws0 (by rw [← hk]; exact e0) _ hm
      rw [hw0] at hw
      cases hw
/-- An operation that the executor waited for is done. -/
theorem DI.barDone (hc : c.Ok) (hT : Ok σ A T) {x : DIn} (d : DI c σ B cx A T call k L a w E done last (x :: rest) recs env next H) (h3 : x.kind = 3) (hr : ∀ i, x.bef.testBit i = true → L.getD i false = true)
    {o : MOper} (hdst : o.dst = x.dst) {ms : List DOper} (hms : ms = dOpers (fun j => match c.ops[j]? with
      | some o => cOper c.P c.ops o
      | none => { dst := none, op := .bad, args := [], guard := none }) (x :: done.map (·.1)) rest)
    {gp : Nat → Option AO} (hgp : ∀ id, gp id = if id ∈ nidsOf c.base (pend 2 x (done.map (·.1))) then none else H.get id)
    {r : AV} {u : Value} {next' : Nat} {objs : Hx.T AO} (hv : VRel σ E' r u) (hobj : HObj σ B E' objs.get w') (he : Emb.le E E') (hnext : next ≤ next') (hfresh : ∀ id, next' ≤ id → E' id = none) (hkeep : ∀ id, id < next → id ≠ c.base + x.j → E' id = E id)
    (hsize : w.heap.size ≤ w'.heap.size) (hframe : ∀ b, b < w.heap.size → (∀ id o x, gp id = some o → E id = some x → x.1 ≠ b) → w'.heap[b]? = w.heap[b]?) (hgm : GmOk σ cx.gm w')
    (hnew : ∀ j o x, objs.get j = some o → E' j = some x → (∃ o', gp j = some o' ∧ E j = some x) ∨ w.heap.size ≤ x.1 ∨ ∃ i o y, gp i = some o ∧ E i = some y ∧ y.1 = x.1)
    (hdom : ∀ id o, objs.get id = some o → next ≤ id ∨ id = c.base + x.j ∨ ∃ o', gp id = some o')
    (htr : ∀ g2 : Nat → Option AO, (∀ id o, g2 id = some o → (∃ o', objs.get id = some o') ∨ ∃ o', realG c.base done L H.get id = some o') → Tr B c.E0 c.g0 c.base c.w0 E' g2 next' w')
    (hgo : T (afterBar A cx call c.base { o := o, j := x.j, kind := x.kind, reads := pend 1 x (done.map (·.1)), news := pend 2 x (done.map (·.1)) } ms recs env ⟨next, H⟩ k r next' objs)) :
    ∃ H', DI c σ B cx A T call k (L.setIfInBounds x.j true) (a.put x.dst u) w' E' ((x, r) :: done) (some x.j) rest recs (putEnv env x.dst r) next' H' := by
  have hxl : x ∈ c.l := d.mem_l.2 (.inr List.mem_cons_self)
  have hlt : x.j < L.size := by rw [d.size]; exact hc.lt hxl
  have hU := d.restU x List.mem_cons_self
  have hnd := d.ne_done hc
  unfold afterBar at hgo
  dsimp only at hgo
  obtain ⟨H', h1, h2⟩ := applyWs_sound (backIds H (nidsOf c.base (pend 2 x (done.map (·.1))))) objs (fun objs => if still cx recs objs.get (pend 1 x (done.map (·.1))) then setDst env o.dst r fun env => runDraw A cx call c.base ms recs env ⟨next', objs⟩ k else A.fail 106)
  rw [h1] at hgo
  split at hgo
  case isFalse => exact (hT.fail _ hgo).elim
  rename_i hstill
  rw [setDst_eq, hdst] at hgo
  have hH' : ∀ id, H'.get id = if id ∈ nidsOf c.base (pend 2 x (done.map (·.1))) then H.get id else objs.get id := fun id => by rw [h2, upd_back]
  have up : ∀ i, L.getD i false = true → (L.setIfInBounds x.j true).getD i false = true := fun i h => by
    rw [getD_set hlt]; split <;> first | rfl | exact h
  have down : ∀ i, (L.setIfInBounds x.j true).getD i false = false → L.getD i false = false := fun i h => by
    rw [getD_set hlt] at h; split at h <;> first | cases h | exact h
  -- who isn't there yet
  have pendIn : ∀ p ∈ done, L.getD p.1.j false = false → p.1.kind = 2 → c.base + p.1.j ∈ nidsOf c.base (pend 2 x (done.map (·.1))) := fun p hp hu h2 => by
    refine mem_nids.2 ⟨p.1.j, mem_pend.2 ⟨p.1, List.mem_map.2 ⟨p, hp, rfl⟩, rfl, h2, ?_⟩, rfl⟩
    cases hb : x.bef.testBit p.1.j with
    | false => rfl
    | true => rw [hr _ hb] at hu; cases hu
  have gpSub : ∀ id o, gp id = some o → realG c.base done L H.get id = some o := fun id ob h => by
    rw [hgp] at h
    split at h
    · cases h
    · rename_i hn
      rw [realG_eq fun p hp hu e => ?_]
      · exact h
      · by_cases h2 : p.1.kind = 2
        · exact hn (e ▸ pendIn p hp hu h2)
        · rw [e, d.noRow0 hc hp hu h2] at h; cases h
  have objsNone : ∀ p ∈ done, L.getD p.1.j false = false → objs.get (c.base + p.1.j) = none := fun p hp hu => by
    cases h : objs.get (c.base + p.1.j) with
    | none => rfl
    | some ob =>
      exfalso
      have hlt' := hc.lt (d.mem_l.2 (.inl ⟨p.2, hp⟩))
      rcases hdom _ ob h with h' | h' | ⟨o', h'⟩
      · have := d.nextge; omega
      · exact hnd p hp (by omega)
      · have := gpSub _ _ h'
        rw [realG_none hp hu] at this; cases this
  have eG : realG c.base ((x, r) :: done) (L.setIfInBounds x.j true) H'.get = fun id => if id ∈ nidsOf c.base (pend 2 x (done.map (·.1))) then realG c.base done L H.get id else objs.get id := by
    funext id
    by_cases hp : ∃ p ∈ done, L.getD p.1.j false = false ∧ id = c.base + p.1.j
    · obtain ⟨p, h1, h2, rfl⟩ := hp
      rw [realG_none (List.mem_cons_of_mem _ h1) (by rw [getD_set hlt, if_neg (hnd p h1)]; exact h2), realG_none h1 h2, objsNone p h1 h2]
      simp
    · rw [realG_eq fun p h1 h2 e => ?_, realG_eq fun p h1 h2 e => hp ⟨p, h1, h2, e⟩, hH']
      rcases List.mem_cons.1 h1 with rfl | h1
      · rw [getD_set hlt, if_pos rfl] at h2; cases h2
      · exact hp ⟨p, h1, down _ h2, e⟩
  have hok := d.head_ok
  have hb3 : Nat.beq x.kind 3 = true := by rw [h3]; rfl
  refine ⟨H', {
    hl := by rw [d.hl]; simp
    ok := by
      have := hok.1
      rw [if_pos hb3] at this
      exact this
    size := by rw [Array.size_setIfInBounds]; exact d.size
    good := fun y hy hl i hi => by
      rw [getD_set hlt] at hl
      split at hl
      · rename_i e
        have := hc.uniq hy hxl e
        subst this
        exact up i (hr i hi)
      · exact up i (d.good y hy hl i hi)
    restU := fun y hy => by rw [getD_set hlt, if_neg (d.ne_rest y hy).symm]; exact d.restU y (List.mem_cons_of_mem _ hy)
    bars := fun p hp hk => by
      rcases List.mem_cons.1 hp with rfl | hp
      · rw [getD_set hlt, if_pos rfl]
      · exact up _ (d.bars p hp hk)
    defers := by cases x.dst <;> exact d.defers
    tsize := by cases x.dst <;> simp [Act.put, d.tsize]
    real := fun t v h => by
      by_cases ht : x.dst = some t
      · have hput : Holds σ E' (a.put x.dst u) t r := by
          rw [ht]
          exact Holds.put_eq (by rw [d.tsize]; exact (hc.dsts x hxl t ht).1) hv
        rcases h with ⟨q, h1, h2, h3, h4⟩ | ⟨h1, h2⟩
        · rcases List.mem_cons.1 h1 with rfl | h1
          · rw [← h4]; exact hput
          · exact absurd h2 ((d.ahead.1 q h1 x List.mem_cons_self).dst t ht)
        · have := h1 x hxl ht
          rw [getD_set hlt, if_pos rfl] at this
          cases this
      · refine Holds.put_ne ((d.real t v ?_).mono he) ht
        rcases h with ⟨q, h1, h2, h3, h4⟩ | ⟨h1, h2⟩
        · rcases List.mem_cons.1 h1 with rfl | h1
          · exact absurd h2 ht
          · refine .inl ⟨q, h1, h2, ?_, h4⟩
            rw [getD_set hlt, if_neg (hnd q h1)] at h3
            exact h3
        · exact .inr ⟨fun y hy hd => down _ (h1 y hy hd), h2⟩
    canon := fun t v hu => by
      cases hd : x.dst with
      | none =>
        rw [hd] at hu
        rcases d.canon t v hu with ⟨p, h1, h2⟩ | ⟨h1, h2⟩
        · exact .inl ⟨p, List.mem_cons_of_mem _ h1, h2⟩
        · refine .inr ⟨fun p hp => ?_, h2⟩
          rcases List.mem_cons.1 hp with rfl | hp
          · rw [hd]; simp
          · exact h1 p hp
      | some dd =>
        rw [hd, putEnv_get] at hu
        split at hu
        · rename_i e
          cases hu
          exact .inl ⟨(x, r), List.mem_cons_self, by rw [e]; exact hd, rfl⟩
        · rename_i e
          rcases d.canon t v hu with ⟨p, h1, h2⟩ | ⟨h1, h2⟩
          · exact .inl ⟨p, List.mem_cons_of_mem _ h1, h2⟩
          · refine .inr ⟨fun p hp => ?_, h2⟩
            rcases List.mem_cons.1 hp with rfl | hp
            · rw [hd]; intro h; exact e (Option.some.inj h).symm
            · exact h1 p hp
    tr := by
      rw [eG]
      refine htr _ fun id ob h => ?_
      split at h
      · exact .inr ⟨ob, h⟩
      · exact .inl ⟨ob, h⟩
    nextge := Nat.le_trans d.nextge hnext
    obj := by
      rw [eG]
      exact HObj.join d.obj gpSub hobj he (fun id => id ∈ nidsOf c.base (pend 2 x (done.map (·.1)))) (fun id h => by rw [hgp, if_pos h]) hsize hframe hnew
    fresh := hfresh
    freshU := fun j hj h => by
      have hne : j ≠ x.j := fun e => by rw [getD_set hlt, if_pos e] at h; cases h
      rw [hkeep _ (by have := d.nextge; omega) (by omega)]; exact d.freshU j hj (down j h)
    bsize := Nat.le_trans d.bsize hsize
    gm := hgm
    prom := fun p hp h => by
      rcases List.mem_cons.1 hp with rfl | hp
      · rw [getD_set hlt, if_pos rfl] at h; cases h
      · have hu := down _ h
        have hpl : p.1 ∈ c.l := d.mem_l.2 (.inl ⟨p.2, hp⟩)
        refine (d.prom p hp hu).less (fun q hq => List.mem_cons_of_mem _ hq) ?_ (fun op vs hk1 hop hs hrec => ⟨fun G2 hG2 => ?_, hrec⟩) (DI.kindOf hc hpl) (fun h3 => by rw [d.bars p hp h3] at hu; cases hu)
        · rw [hH']
          split
          · rfl
          · rename_i hn
            rw [objsNone p hp hu]
            by_cases h2 : p.1.kind = 2
            · exact absurd (pendIn p hp hu h2) hn
            · rw [d.noRow0 hc hp hu h2]
        · have hin : p.1.j ∈ pend 1 x (done.map (·.1)) := mem_pend.2 ⟨p.1, List.mem_map.2 ⟨p, hp, rfl⟩, rfl, hk1, by
            cases hb : x.bef.testBit p.1.j with
            | false => rfl
            | true => rw [hr _ hb] at hu; cases hu⟩
          have := still_sound hstill _ hin _ hrec
          rw [small_reads (g' := H'.get) (nid' := 0) hop (fun id hid => hG2 id hid)]
          exact this
    go := by rw [hms] at hgo; exact hgo
    recsU := fun y hy => d.recsU y (List.mem_cons_of_mem _ hy) }⟩
end
end Go.Hx
