/- Regions that draw their order: whichever it is, what the executor found in one order stands. -/
import Derived.Test.YtdbdebcakemmbaaGreatDoorHxDrawA
namespace Go.Hx
open Go
open Classical in
/-- The rows as far as they are really there: those that are made but in the executor's order are left out. -/
noncomputable def realG (base : Nat) (done : List (DIn × AV)) (L : Array Bool) (H : Nat → Option AO) : Nat → Option AO :=
  fun id => if ∃ p ∈ done, L.getD p.1.j false = false ∧ id = base + p.1.j then none else H id
theorem realG_eq {base : Nat} {done : List (DIn × AV)} {L : Array Bool} {H : Nat → Option AO} {id : Nat} (h : ∀ p ∈ done, L.getD p.1.j false = false → id ≠ base + p.1.j) : realG base done L H id = H id := by
  unfold realG
  rw [if_neg]
  rintro ⟨p, h1, h2, h3⟩
  exact h p h1 h2 h3
theorem realG_none {base : Nat} {done : List (DIn × AV)} {L : Array Bool} {H : Nat → Option AO} {p : DIn × AV} (h : p ∈ done) (hl : L.getD p.1.j false = false) : realG base done L H (base + p.1.j) = none := by
  unfold realG
  rw [if_pos ⟨p, h, hl, rfl⟩]
theorem realG_sub {base : Nat} {done : List (DIn × AV)} {L : Array Bool} {H : Nat → Option AO} {id : Nat} {o : AO} (h : realG base done L H id = some o) : H id = some o := by
  unfold realG at h
  split at h
  · cases h
  · exact h
variable {σ : Nat → Value} {B : Nat} {E E' : Emb} {w w' : World} {P : Program} {R : Type} {A : Ans R} {T : R → Prop} {cx : Cx} {call : Call R}

def RealV (l : List DIn) (done : List (DIn × AV)) (L : Array Bool) (env0 : Hx.T AV) (t : Nat) (v : AV) : Prop :=
  (∃ p ∈ done, p.1.dst = some t ∧ L.getD p.1.j false = true ∧ p.2 = v) ∨ ((∀ x ∈ l, x.dst = some t → L.getD x.j false = false) ∧ env0.get t = some v)
def CanonV (done : List (DIn × AV)) (env0 : Hx.T AV) (t : Nat) (v : AV) : Prop :=
  (∃ p ∈ done, p.1.dst = some t ∧ p.2 = v) ∨ ((∀ p ∈ done, p.1.dst ≠ some t) ∧ env0.get t = some v)
def AtV (l : List DIn) (done : List (DIn × AV)) (env0 : Hx.T AV) (x : DIn) (t : Nat) (v : AV) : Prop :=
  (∃ p ∈ done, p.1.dst = some t ∧ x.bef.testBit p.1.j = true ∧ p.2 = v) ∨ ((∀ y ∈ l, y.dst = some t → x.bef.testBit y.j = false) ∧ env0.get t = some v)
def Looks (σ : Nat → Value) (l : List DIn) (done : List (DIn × AV)) (env0 : Hx.T AV) (x : DIn) (E : Emb) (a : Act) : Prop := ∀ t ∈ x.looks, ∀ v, AtV l done env0 x t v → Holds σ E a t v
theorem Looks.less {l : List DIn} {done done' : List (DIn × AV)} {env0 : Hx.T AV} {x : DIn} {a : Act} (h : Looks σ l done' env0 x E a) (hs : ∀ p ∈ done, p ∈ done') : Looks σ l done env0 x E a := fun t ht v hv =>
  h t ht v (hv.imp (fun ⟨p, h1, h2⟩ => ⟨p, hs p h1, h2⟩) id)

/-- What is promised of an operation that the executor has behind it, and the run before it. -/
def Promise (P : Program) (σ : Nat → Value) (cx : Cx) (ops : Array Oper) (l : List DIn) (env0 : Hx.T AV) (base : Nat) (done : List (DIn × AV)) (H : Nat → Option AO) (recs : Hx.T Rec) (x : DIn) (v : AV) : Prop :=
  ∃ o, ops[x.j]? = some o ∧ (((∀ E a, Looks σ l done env0 x E a → Region.wanted o (yielded ops a.tmps) = false) ∧ v = .tup [] ∧ H (base + x.j) = none) ∨
    ∃ vs ws, (∀ E a, Looks σ l done env0 x E a → Region.wanted o (yielded ops a.tmps) = true ∧ VRels σ E vs ((cOp P o.op).2.map a.eval)) ∧
      (∀ G, (x.kind = 1 → ∀ id ∈ avsIds vs, G id = H id) → small cx.gm cx.ot (cOp P o.op).1 G (base + x.j) vs = [(v, ws)]) ∧
      ((ws = [] ∧ H (base + x.j) = none) ∨ ∃ ob, ws = [(base + x.j, some ob)] ∧ H (base + x.j) = some ob) ∧
      (x.kind = 1 → ws = [] ∧ recs.get x.j = some ⟨(cOp P o.op).1, vs, v⟩))

/-- What is fixed: the region, the frame, where it began. -/
structure DC where
  P : Program
  ops : Array Oper
  l : List DIn
  n : Fr
  base : Nat
  env0 : Hx.T AV
  E0 : Emb
  g0 : Nat → Option AO
  w0 : World
structure DC.Ok (c : DC) : Prop where
  mem : ∀ x ∈ c.l, ∃ o, c.ops[x.j]? = some o ∧ x.dst = o.dst ∧ x.looks = looksAt c.ops o (cOp c.P o.op).2 ∧ x.kind = kindOf (cOp c.P o.op).1 ∧ x.bef = (Region.before c.ops).getD x.j 0
  all : ∀ j, j < c.ops.size → ∃ x ∈ c.l, x.j = j
  edges : ∀ (j : Nat) (o : Oper), c.ops[j]? = some o → ∀ e ∈ o.after.toList, Region.binds .any e = true → e.on < j
  pairs : c.l.Pairwise Ahead
  self : ∀ x ∈ c.l, x.bef.testBit x.j = false
  dsts : ∀ x ∈ c.l, ∀ d, x.dst = some d → d < c.n.n ∧ c.n.mask.testBit d = false

/-- Where the run stands, and where the executor. -/
structure DI (c : DC) (σ : Nat → Value) (B : Nat) (cx : Cx) (A : Ans R) (T : R → Prop) (call : Call R) (k : Hx.T AV → Heap → R) (L : Array Bool) (a : Act) (w : World) (E : Emb)
    (done : List (DIn × AV)) (last : Option Nat) (rest : List DIn) (recs : Hx.T Rec) (env : Hx.T AV) (next : Nat) (H : Hx.T AO) : Prop where
  hl : c.l = (done.map (·.1)).reverse ++ rest
  ok : dOk (done.map (·.1)) last rest = true
  size : L.size = c.ops.size
  good : ∀ x ∈ c.l, L.getD x.j false = true → ∀ i, x.bef.testBit i = true → L.getD i false = true
  restU : ∀ x ∈ rest, L.getD x.j false = false
  bars : ∀ p ∈ done, p.1.kind = 3 → L.getD p.1.j false = true
  defers : a.defers = []
  tsize : a.tmps.size = c.n.n
  real : ∀ t v, RealV c.l done L c.env0 t v → Holds σ E a t v
  canon : ∀ t v, env.get t = some v → CanonV done c.env0 t v
  tr : Tr B c.E0 c.g0 c.base c.w0 E (realG c.base done L H.get) next w
  nextge : c.base + c.ops.size ≤ next
  obj : HObj σ B E (realG c.base done L H.get) w
  fresh : ∀ id, next ≤ id → E id = none
  freshU : ∀ j, j < c.ops.size → L.getD j false = false → E (c.base + j) = none
  bsize : B ≤ w.heap.size
  gm : GmOk σ cx.gm w
  prom : ∀ p ∈ done, L.getD p.1.j false = false → Promise c.P σ cx c.ops c.l c.env0 c.base done H.get recs p.1 p.2
  go : T (runDraw A cx call c.base (dOpers (fun j => match c.ops[j]? with
      | some o => cOper c.P c.ops o
      | none => { dst := none, op := .bad, args := [], guard := none }) (done.map (·.1)) rest) recs env ⟨next, H⟩ k)
  recsU : ∀ x ∈ rest, recs.get x.j = none

section
variable {c : DC} {k : Hx.T AV → Heap → R} {L : Array Bool} {a : Act} {done : List (DIn × AV)} {last : Option Nat} {rest : List DIn} {recs : Hx.T Rec} {env : Hx.T AV} {next : Nat} {H : Hx.T AO}
theorem DI.mem_l (d : DI c σ B cx A T call k L a w E done last rest recs env next H) {x : DIn} : x ∈ c.l ↔ (∃ v, (x, v) ∈ done) ∨ x ∈ rest := by
  rw [d.hl, List.mem_append, List.mem_reverse, List.mem_map]
  constructor
  · rintro (⟨⟨y, v⟩, h, rfl⟩ | h)
    · exact .inl ⟨v, h⟩
    · exact .inr h
  · rintro (⟨v, h⟩ | h)
    · exact .inl ⟨(x, v), h, rfl⟩
    · exact .inr h
theorem DI.ahead (d : DI c σ B cx A T call k L a w E done last rest recs env next H) : (∀ p ∈ done, ∀ x ∈ rest, Ahead p.1 x) ∧ rest.Pairwise Ahead := by
  have := dOk_pairs _ _ _ d.ok
  exact ⟨fun p hp x hx => this.1 p.1 (List.mem_map.2 ⟨p, hp, rfl⟩) x hx, this.2⟩
theorem DC.Ok.lt (hc : c.Ok) {x : DIn} (h : x ∈ c.l) : x.j < c.ops.size := by
  obtain ⟨o, ho, _⟩ := hc.mem x h
  exact (Array.getElem?_eq_some_iff.1 ho).1
theorem DC.Ok.uniq (hc : c.Ok) {x y : DIn} (hx : x ∈ c.l) (hy : y ∈ c.l) (h : x.j = y.j) : x = y := by
  rcases pairwise_tri hc.pairs hx hy with e | e | e
  · exact e
  · exact absurd h e.ne
  · exact absurd h.symm e.ne
/-- What it looks at when it runs is what the executor looked at. -/
theorem DI.looks (hc : c.Ok) (d : DI c σ B cx A T call k L a w E done last rest recs env next H) {x : DIn} (hx : x ∈ c.l) (hr : ∀ i, x.bef.testBit i = true → L.getD i false = true) (hu : L.getD x.j false = false) : Looks σ c.l done c.env0 x E a := by
  intro t ht v hv
  refine d.real t v ?_
  rcases hv with ⟨p, h1, h2, h3, h4⟩ | ⟨h1, h2⟩
  · exact .inl ⟨p, h1, h2, hr _ h3, h4⟩
  · refine .inr ⟨fun y hy hd => ?_, h2⟩
    rcases pairwise_tri hc.pairs hx hy with e | e | e
    · rw [← e]; exact hu
    · cases hl : L.getD y.j false with
      | false => rfl
      | true =>
        have := d.good y hy hl _ (e.late t hd ht)
        rw [hu] at this; cases this
    · have := e.early t hd ht
      rw [h1 y hy hd] at this; cases this
theorem DI.canonAt (hc : c.Ok) {x : DIn} (d : DI c σ B cx A T call k L a w E done last (x :: rest) recs env next H) {t : Nat} (ht : t ∈ x.looks) {v : AV} (hv : env.get t = some v) : AtV c.l done c.env0 x t v := by
  rcases d.canon t v hv with ⟨p, h1, h2, h3⟩ | ⟨h1, h2⟩
  · exact .inl ⟨p, h1, h2, (d.ahead.1 p h1 x List.mem_cons_self).early t h2 ht, h3⟩
  · refine .inr ⟨fun y hy hd => ?_, h2⟩
    rcases d.mem_l.1 hy with ⟨v', hy'⟩ | hy'
    · exact absurd hd (h1 _ hy')
    · rcases List.mem_cons.1 hy' with rfl | hy'
      · exact hc.self y hy
      · have := d.ahead.2
        cases this with
        | cons h1 h2 => exact (h1 y hy').no
noncomputable def afterBar (A : Ans R) (cx : Cx) (call : Call R) (base : Nat) (x : DOper) (ms : List DOper) (recs : Hx.T Rec) (env : Hx.T AV) (h : Heap) (k : Hx.T AV → Heap → R) (r : AV) (next : Nat) (objs : Hx.T AO) : R :=
  applyWs objs (backIds h.objs (nidsOf base x.news)) fun objs =>
    if still cx recs objs.get x.reads then setDst env x.o.dst r fun env => runDraw A cx call base ms recs env ⟨next, objs⟩ k else A.fail 106
theorem runDraw_cons (x : DOper) (ms : List DOper) (base : Nat) (recs : Hx.T Rec) (env : Hx.T AV) (h : Heap) (k : Hx.T AV → Heap → R) : runDraw A cx call base (x :: ms) recs env h k =
    guarded A 103
      (evs (A.fail 104) env x.o.args fun vs =>
        if Nat.beq x.kind 3 then
          applyWs h.objs (delIds (nidsOf base x.news)) fun part =>
            if isCall x.o.op then doCall A call vs ⟨h.next, part⟩ fun r h' => afterBar A cx call base x ms recs env h k r h'.next h'.objs
            else doSmall A cx x.o.op vs part (base + x.j) fun r _ objs => afterBar A cx call base x ms recs env h k r h.next objs
        else
          doQuiet A cx x.o.op vs h.objs (base + x.j) fun vs r objs =>
            if Nat.beq x.kind 1 then Hx.T.put (x.j + 1) recs x.j (some ⟨x.o.op, vs, r⟩) fun recs => setDst env x.o.dst r fun env => runDraw A cx call base ms recs env ⟨h.next, objs⟩ k
            else setDst env x.o.dst r fun env => runDraw A cx call base ms recs env ⟨h.next, objs⟩ k)
      (setDst env x.o.dst (.tup []) fun env => runDraw A cx call base ms recs env h k)
      x.o.guard env := rfl
/-- The operation at the head, and what the executor does of it. -/
theorem DI.head (hc : c.Ok) (hT : Ok σ A T) {x : DIn} (d : DI c σ B cx A T call k L a w E done last (x :: rest) recs env next H) :
    ∃ o as gd, c.ops[x.j]? = some o ∧ x.dst = o.dst ∧ x.looks = looksAt c.ops o (cOp c.P o.op).2 ∧ x.kind = kindOf (cOp c.P o.op).1 ∧ cOpds (cOp c.P o.op).2 = some as ∧ (match o.guard with
    | none => some none
    | some (g, b) => match (c.ops[g]?).bind (·.dst) with
      | some t => some (some (t, b))
      | none => none) = some gd ∧ cOper c.P c.ops o = { dst := o.dst, op := (cOp c.P o.op).1, args := as, guard := gd } := by
  obtain ⟨o, ho, h1, h2, h3, h4⟩ := hc.mem x (d.mem_l.2 (.inr List.mem_cons_self))
  rcases cOper_spec (P := c.P) c.ops o with ⟨as, gd, has, hgd, e⟩ | e
  · exact ⟨o, as, gd, ho, h1, h2, h3, has, hgd, e⟩
  · have hk := d.go
    simp only [dOpers, ho, e] at hk
    exfalso
    rw [runDraw_cons] at hk
    change T (if Nat.beq x.kind 3 = true then _ else _) at hk
    split at hk
    · rw [(applyWs_sound _ _ _).choose_spec.1] at hk
      have hb : isCall badOper.op = false := rfl
      rw [if_neg (by rw [hb]; simp)] at hk
      exact hT.fail _ hk
    · exact hT.fail _ hk

theorem guard_looks {ops : Array Oper} {o : Oper} {xs : List Operand} {t : Nat} (h : ∃ g b, o.guard = some (g, b) ∧ (ops[g]?).bind (·.dst) = some t) : t ∈ looksAt ops o xs := by
  obtain ⟨g, b, h1, h2⟩ := h
  unfold looksAt
  rw [h1]
  exact List.mem_append_right _ (by simp [h2])
theorem arg_looks {ops : Array Oper} {o : Oper} {xs : List Operand} {t : Nat} (h : .tmp t ∈ xs) : t ∈ looksAt ops o xs :=
  List.mem_append_left _ (List.mem_filterMap.2 ⟨.tmp t, h, rfl⟩)
theorem DI.head_ok {x : DIn} (d : DI c σ B cx A T call k L a w E done last (x :: rest) recs env next H) : dOk (x :: done.map (·.1)) (if Nat.beq x.kind 3 then some x.j else last) rest = true ∧ ∀ b, last = some b → x.bef.testBit b = true := by
  have := d.ok
  simp only [dOk, Bool.and_eq_true] at this
  exact ⟨this.2, (dOk1_spec this.1).2.1⟩
theorem DI.ne_done (hc : c.Ok) {x : DIn} (d : DI c σ B cx A T call k L a w E done last (x :: rest) recs env next H) : ∀ p ∈ done, p.1.j ≠ x.j := fun p hp => (d.ahead.1 p hp x List.mem_cons_self).ne
theorem DI.ne_rest {x : DIn} (d : DI c σ B cx A T call k L a w E done last (x :: rest) recs env next H) : ∀ y ∈ rest, x.j ≠ y.j := fun y hy => by
  have := d.ahead.2
  cases this with
  | cons h1 h2 => exact (h1 y hy).ne
/-- The executor's row at the head's number: there is none yet. -/
theorem DI.noRow (hc : c.Ok) {x : DIn} (d : DI c σ B cx A T call k L a w E done last (x :: rest) recs env next H) : H.get (c.base + x.j) = none := by
  have hx : x ∈ c.l := d.mem_l.2 (.inr List.mem_cons_self)
  have e : realG c.base done L H.get (c.base + x.j) = H.get (c.base + x.j) := realG_eq fun p hp _ he => d.ne_done hc p hp (by omega)
  cases hg : H.get (c.base + x.j) with
  | none => rfl
  | some o =>
    rw [hg] at e
    obtain ⟨y, h1, _⟩ := d.obj.obj _ _ e
    rw [d.freshU _ (hc.lt hx) (d.restU x List.mem_cons_self)] at h1
    cases h1
theorem Promise.less {ops : Array Oper} {l : List DIn} {env0 : Hx.T AV} {base : Nat} {done done' : List (DIn × AV)} {G G' : Nat → Option AO} {recs recs' : Hx.T Rec} {x : DIn} {v : AV} (h : Promise P σ cx ops l env0 base done G recs x v) (hd : ∀ p ∈ done, p ∈ done')
    (hG : G' (base + x.j) = G (base + x.j)) (hR : ∀ op vs, x.kind = 1 → kindOf op = 1 → small cx.gm cx.ot op G 0 vs = [(v, [])] → recs.get x.j = some ⟨op, vs, v⟩ → (∀ G2, (∀ id ∈ avsIds vs, G2 id = G' id) → small cx.gm cx.ot op G2 (base + x.j) vs = [(v, [])]) ∧ recs'.get x.j = some ⟨op, vs, v⟩)
    (hk : ∀ o, ops[x.j]? = some o → x.kind = kindOf (cOp P o.op).1) (h3 : x.kind ≠ 3) : Promise P σ cx ops l env0 base done' G' recs' x v := by
  obtain ⟨o, ho, h⟩ := h
  refine ⟨o, ho, ?_⟩
  rcases h with ⟨h1, h2, h4⟩ | ⟨vs, ws, h1, h2, h4, h5⟩
  · exact .inl ⟨fun E a hl => h1 E a (hl.less hd), h2, by rw [hG]; exact h4⟩
  · refine .inr ⟨vs, ws, fun E a hl => h1 E a (hl.less hd), fun G2 hG2 => ?_, by rw [hG]; exact h4, fun h1k => ?_⟩
    · by_cases h1k : x.kind = 1
      · obtain ⟨hw, hr⟩ := h5 h1k
        subst hw
        have hs : small cx.gm cx.ot (cOp P o.op).1 G 0 vs = [(v, [])] := by
          rw [small_reads (g' := G) (nid' := base + x.j) (by rw [← hk o ho]; exact h1k) (fun _ _ => rfl)]
          exact h2 G fun _ _ _ => rfl
        exact (hR _ vs h1k (by rw [← hk o ho]; exact h1k) hs hr).1 G2 (hG2 h1k)
      · rw [small_indep (g' := G) (by rw [← hk o ho]; exact h1k) (by rw [← hk o ho]; exact h3)]
        exact h2 G fun h => absurd h h1k
    · obtain ⟨hw, hr⟩ := h5 h1k
      subst hw
      have hs : small cx.gm cx.ot (cOp P o.op).1 G 0 vs = [(v, [])] := by
        rw [small_reads (g' := G) (nid' := base + x.j) (by rw [← hk o ho]; exact h1k) (fun _ _ => rfl)]
        exact h2 G fun _ _ _ => rfl
      exact ⟨rfl, (hR _ vs h1k (by rw [← hk o ho]; exact h1k) hs hr).2⟩
end
end Go.Hx
/- Regions that draw their order: the executor goes on. -/
namespace Go.Hx
open Go
variable {σ : Nat → Value} {B : Nat} {E E' : Emb} {w w' : World} {P : Program} {R : Type} {A : Ans R} {T : R → Prop} {cx : Cx} {call : Call R}

theorem small_reads_mono {gm : Nat → Nat → Option AV} {ot : MOp → List AV → Option AV} (ho : OtOk P σ ot) {op : MOp} {g g' : Nat → Option AO} {nid nid' : Nat} {vs : List AV} (h1 : kindOf op = 1) (hg : ∀ id o, g id = some o → g' id = some o)
    (hne : small gm ot op g nid vs ≠ []) : small gm ot op g' nid' vs = small gm ot op g nid vs := by
  have some' : ∀ id, g id ≠ none → g' id = g id := fun id h => by
    cases e : g id with
    | none => exact absurd e h
    | some o => exact hg id o e
  cases op <;> first | cases h1 | skip
  case b2s =>
    simp only [small] at hne ⊢
    split at hne <;> try rfl
    rename_i id off len es cap
    rw [some' id (fun e => by rw [e] at hne; exact hne rfl)]
  case load n =>
    have e : ∀ g, small gm ot (.load n) g nid vs = ones (sLoad gm n g vs) := fun _ => rfl
    have e' : small gm ot (.load n) g' nid' vs = ones (sLoad gm n g' vs) := rfl
    rw [e] at hne
    rw [e', e]
    congr 1
    unfold sLoad at hne ⊢
    split at hne <;> try rfl
    rename_i id off
    rw [some' id (fun e => by rw [e] at hne; exact hne rfl)]
  case look kk ok z =>
    have e : ∀ g, small gm ot (.look kk ok z) g nid vs = ones (sLook kk ok z g vs) := fun _ => rfl
    have e' : small gm ot (.look kk ok z) g' nid' vs = ones (sLook kk ok z g' vs) := rfl
    rw [e] at hne
    rw [e', e]
    congr 1
    unfold sLook at hne ⊢
    split at hne <;> try rfl
    rename_i id k
    split at hne
    · exact absurd rfl hne
    · rename_i hk
      rw [if_neg hk, if_neg hk, some' id (fun e => by rw [e] at hne; exact hne rfl)]
  case len k =>
    rw [small_len ho] at hne
    rw [small_len ho, small_len ho]
    congr 1
    unfold sLen at hne ⊢
    split at hne <;> try rfl
    rename_i id
    split at hne
    · rename_i hk
      rw [if_pos hk, if_pos hk, some' id (fun e => by rw [e] at hne; exact hne rfl)]
    · exact absurd rfl hne

section
variable {c : DC} {k : Hx.T AV → Heap → R} {L : Array Bool} {a : Act} {done : List (DIn × AV)} {last : Option Nat} {rest : List DIn} {recs : Hx.T Rec} {env : Hx.T AV} {next : Nat} {H : Hx.T AO}
theorem DI.kindOf (hc : c.Ok) {x : DIn} (hx : x ∈ c.l) : ∀ o, c.ops[x.j]? = some o → x.kind = Hx.kindOf (cOp c.P o.op).1 := fun o ho => by
  obtain ⟨o', ho', _, _, h3, _⟩ := hc.mem x hx
  have : o' = o := Option.some.inj (ho'.symm.trans ho)
  rw [← this]; exact h3
/-- One more behind the executor: it isn't there yet in the run. -/
theorem DI.push (hc : c.Ok) (ho : OtOk c.P σ cx.ot) {x : DIn} (d : DI c σ B cx A T call k L a w E done last (x :: rest) recs env next H) (hk : x.kind ≠ 3) {v : AV} {recs' : Hx.T Rec} {H' : Hx.T AO}
    (hH : ∀ id, id ≠ c.base + x.j → H'.get id = H.get id) (hR : ∀ i, i ≠ x.j → recs'.get i = recs.get i)
    (hp : Promise c.P σ cx c.ops c.l c.env0 c.base done H'.get recs' x v)
    (hgo : T (runDraw A cx call c.base (dOpers (fun j => match c.ops[j]? with
      | some o => cOper c.P c.ops o
      | none => { dst := none, op := .bad, args := [], guard := none }) (x :: done.map (·.1)) rest) recs' (putEnv env x.dst v) ⟨next, H'⟩ k)) :
    DI c σ B cx A T call k L a w E ((x, v) :: done) last rest recs' (putEnv env x.dst v) next H' := by
  have hU := d.restU x List.mem_cons_self
  have hno := d.noRow hc
  have eG : realG c.base ((x, v) :: done) L H'.get = realG c.base done L H.get := by
    funext id
    by_cases e : id = c.base + x.j
    · subst e
      rw [realG_none (p := (x, v)) List.mem_cons_self hU]
      cases hg : realG c.base done L H.get (c.base + x.j) with
      | none => rfl
      | some o => rw [realG_sub hg] at hno; cases hno
    · unfold realG
      by_cases h : ∃ p ∈ done, L.getD p.1.j false = false ∧ id = c.base + p.1.j
      · rw [if_pos h]
        obtain ⟨p, h1, h2⟩ := h
        rw [if_pos ⟨p, List.mem_cons_of_mem _ h1, h2⟩]
      · rw [if_neg h, if_neg, hH id e]
        rintro ⟨p, h1, h2, h3⟩
        rcases List.mem_cons.1 h1 with rfl | h1
        · exact e h3
        · exact h ⟨p, h1, h2, h3⟩
  have hok := d.head_ok
  have hnb : Nat.beq x.kind 3 = false := by
    cases h : Nat.beq x.kind 3 with
    | false => rfl
    | true => exact absurd (Nat.eq_of_beq_eq_true h) hk
  have sub : ∀ id o, H.get id = some o → H'.get id = some o := fun id o h => by
    rw [hH id (fun e => by rw [e, hno] at h; cases h)]; exact h
  exact {
    hl := by rw [d.hl]; simp
    ok := by
      have := hok.1
      rw [if_neg (by rw [hnb]; simp)] at this
      exact this
    size := d.size
    good := d.good
    restU := fun y hy => d.restU y (List.mem_cons_of_mem _ hy)
    bars := fun p hp h3 => by
      rcases List.mem_cons.1 hp with rfl | hp
      · exact absurd h3 hk
      · exact d.bars p hp h3
    defers := d.defers
    tsize := d.tsize
    real := fun t u hu => d.real t u (by
      rcases hu with ⟨p, h1, h2, h3, h4⟩ | h
      · rcases List.mem_cons.1 h1 with rfl | h1
        · rw [hU] at h3; cases h3
        · exact .inl ⟨p, h1, h2, h3, h4⟩
      · exact .inr h)
    canon := fun t u hu => by
      cases hd : x.dst with
      | none =>
        rw [hd] at hu
        rcases d.canon t u hu with ⟨p, h1, h2⟩ | ⟨h1, h2⟩
        · exact .inl ⟨p, List.mem_cons_of_mem _ h1, h2⟩
        · refine .inr ⟨fun p hp => ?_, h2⟩
          rcases List.mem_cons.1 hp with rfl | hp
          · rw [hd]; simp
          · exact h1 p hp
      | some dd =>
        rw [hd, putEnv_get] at hu
        split at hu
        · rename_i e
          cases hu
          exact .inl ⟨(x, v), List.mem_cons_self, by rw [e]; exact hd, rfl⟩
        · rename_i e
          rcases d.canon t u hu with ⟨p, h1, h2⟩ | ⟨h1, h2⟩
          · exact .inl ⟨p, List.mem_cons_of_mem _ h1, h2⟩
          · refine .inr ⟨fun p hp => ?_, h2⟩
            rcases List.mem_cons.1 hp with rfl | hp
            · rw [hd]; intro h; exact e (Option.some.inj h).symm
            · exact h1 p hp
    tr := by rw [eG]; exact d.tr
    nextge := d.nextge
    obj := by rw [eG]; exact d.obj
    fresh := d.fresh
    freshU := d.freshU
    bsize := d.bsize
    gm := d.gm
    prom := fun p hp' hu => by
      rcases List.mem_cons.1 hp' with rfl | hp'
      · obtain ⟨o, h1, h2⟩ := hp
        refine ⟨o, h1, ?_⟩
        rcases h2 with ⟨h2, h3⟩ | ⟨vs, ws, h2, h3⟩
        · exact .inl ⟨fun E a hl => h2 E a (hl.less fun p hp => List.mem_cons_of_mem _ hp), h3⟩
        · exact .inr ⟨vs, ws, fun E a hl => h2 E a (hl.less fun p hp => List.mem_cons_of_mem _ hp), h3⟩
      · have hne := d.ne_done hc p hp'
        have hpl : p.1 ∈ c.l := d.mem_l.2 (.inl ⟨p.2, hp'⟩)
        refine (d.prom p hp' hu).less (fun q hq => List.mem_cons_of_mem _ hq) (hH _ (by omega)) (fun op vs _ hop hs hr => ⟨fun G2 hG2 => ?_, by rw [hR _ hne]; exact hr⟩) (DI.kindOf hc hpl) (fun h3 => by rw [d.bars p hp' h3] at hu; cases hu)
        rw [small_reads (g' := H'.get) (nid' := 0) hop (fun id hid => hG2 id hid), small_reads_mono ho hop sub (by rw [hs]; simp)]
        exact hs
    go := hgo
    recsU := fun y hy => by rw [hR _ (d.ne_rest y hy).symm]; exact d.recsU y (List.mem_cons_of_mem _ hy) }

/-- The executor goes one on. -/
theorem DI.adv1 (hc : c.Ok) (hT : Ok σ A T) (ho : OtOk c.P σ cx.ot) {x : DIn} (d : DI c σ B cx A T call k L a w E done last (x :: rest) recs env next H) (hk : x.kind ≠ 3) :
    ∃ v recs' env' H', DI c σ B cx A T call k L a w E ((x, v) :: done) last rest recs' env' next H' := by
  obtain ⟨o, as, gd, hop, hdst, hlooks, hkind, has, hgd, e⟩ := d.head hc hT
  have hgo := d.go
  simp only [dOpers, hop, e] at hgo
  rw [runDraw_cons] at hgo
  dsimp only at hgo
  have hnb : Nat.beq x.kind 3 = false := by
    cases h : Nat.beq x.kind 3 with
    | false => rfl
    | true => exact absurd (Nat.eq_of_beq_eq_true h) hk
  have gl : ∀ (E : Emb) (a : Act), Looks σ c.l done c.env0 x E a → ∀ t, (∃ g b, o.guard = some (g, b) ∧ (c.ops[g]?).bind (·.dst) = some t) → ∀ v, env.get t = some v → ∃ u, a.tmps[t]? = some u ∧ VRel σ E v u := fun E a hl t ht v hv => by
    have hm : t ∈ x.looks := by rw [hlooks]; exact guard_looks ht
    exact hl t hm v (d.canonAt hc hm hv)
  rcases guarded_univ hT hgd hgo with ⟨hrun, hg⟩ | ⟨hskip, hg⟩
  · obtain ⟨vs, hrun, hv⟩ := evs_univ hT _ _ has _ hrun
    rw [if_neg (by rw [hnb]; simp)] at hrun
    obtain ⟨vs', r, ws, objs', h1, h2, h3, h4⟩ := doQuiet_univ hT 8 vs hrun
    have hvs : ∀ (E : Emb) (a : Act), Looks σ c.l done c.env0 x E a → VRels σ E vs' ((cOp c.P o.op).2.map a.eval) := fun E a hl => h1 E _ (hv E a fun t ht v hv => by
      have hm : t ∈ x.looks := by rw [hlooks]; exact arg_looks ht
      exact hl t hm v (d.canonAt hc hm hv))
    have hobj : ∀ id, id ≠ c.base + x.j → objs'.get id = H.get id := fun id hid => by
      rcases h4 with ⟨_, rfl⟩ | ⟨ob, _, rfl⟩
      · rfl
      · rw [Hx.T.get_set1, if_neg hid]
    have hrow : (ws = [] ∧ objs'.get (c.base + x.j) = none) ∨ ∃ ob, ws = [(c.base + x.j, some ob)] ∧ objs'.get (c.base + x.j) = some ob := by
      rcases h4 with ⟨h, rfl⟩ | ⟨ob, h, rfl⟩
      · exact .inl ⟨h, d.noRow hc⟩
      · exact .inr ⟨ob, h, by rw [Hx.T.get_set1, if_pos rfl]⟩
    have hsm : ∀ G, (x.kind = 1 → ∀ id ∈ avsIds vs', G id = objs'.get id) → small cx.gm cx.ot (cOp c.P o.op).1 G (c.base + x.j) vs' = [(r, ws)] := fun G hG => by
      by_cases h1k : x.kind = 1
      · have hw : ws = [] := small_reads_ws (by rw [← hkind]; exact h1k) _ (by rw [h2]; exact List.mem_singleton.2 rfl)
        have : objs' = H := by
          rcases h4 with ⟨_, h⟩ | ⟨ob, h, _⟩
          · exact h
          · rw [hw] at h; cases h
        rw [small_reads (g' := H.get) (nid' := c.base + x.j) (by rw [← hkind]; exact h1k) (fun id hid => by rw [← this]; exact hG h1k id hid)]
        exact h2
      · rw [small_indep (g' := H.get) (by rw [← hkind]; exact h1k) (by rw [← hkind]; exact hk)]
        exact h2
    by_cases h1k : x.kind = 1
    · have hb1 : Nat.beq x.kind 1 = true := by rw [h1k]; rfl
      rw [if_pos hb1] at h3
      rw [Hx.T.put_eq] at h3
      rw [setDst_eq] at h3
      refine ⟨r, Hx.T.set (x.j + 1) recs x.j (some ⟨(cOp c.P o.op).1, vs', r⟩), putEnv env x.dst r, objs', d.push hc ho hk hobj (fun i hi => by rw [Hx.T.get_set1, if_neg hi]) ⟨o, hop, .inr ⟨vs', ws, fun E a hl => ⟨hg E a (gl E a hl), hvs E a hl⟩, hsm, hrow, fun _ => ⟨small_reads_ws (by rw [← hkind]; exact h1k) _ (by rw [h2]; exact List.mem_singleton.2 rfl), by rw [Hx.T.get_set1, if_pos rfl]⟩⟩⟩ ?_⟩
      rw [hdst]; exact h3
    · have hb1 : Nat.beq x.kind 1 = false := by
        cases h : Nat.beq x.kind 1 with
        | false => rfl
        | true => exact absurd (Nat.eq_of_beq_eq_true h) h1k
      rw [if_neg (by rw [hb1]; simp)] at h3
      rw [setDst_eq] at h3
      refine ⟨r, recs, putEnv env x.dst r, objs', d.push hc ho hk hobj (fun _ _ => rfl) ⟨o, hop, .inr ⟨vs', ws, fun E a hl => ⟨hg E a (gl E a hl), hvs E a hl⟩, hsm, hrow, fun h => absurd h h1k⟩⟩ ?_⟩
      rw [hdst]; exact h3
  · rw [setDst_eq] at hskip
    refine ⟨.tup [], recs, putEnv env x.dst (.tup []), H, d.push hc ho hk (fun _ _ => rfl) (fun _ _ => rfl) ⟨o, hop, .inl ⟨fun E a hl => hg E a (gl E a hl), rfl, d.noRow hc⟩⟩ ?_⟩
    rw [hdst]; exact hskip
/-- It goes on till an operation of kind 3, or to the end. -/
theorem DI.adv (hc : c.Ok) (hT : Ok σ A T) (ho : OtOk c.P σ cx.ot) : ∀ (rest : List DIn) {done : List (DIn × AV)} {last : Option Nat} {recs : Hx.T Rec} {env : Hx.T AV} {H : Hx.T AO}, DI c σ B cx A T call k L a w E done last rest recs env next H →
    ∃ done' rest' recs' env' H', DI c σ B cx A T call k L a w E done' last rest' recs' env' next H' ∧ (rest' = [] ∨ ∃ x xs, rest' = x :: xs ∧ x.kind = 3)
  | [], done, last, recs, env, H, d => ⟨done, [], recs, env, H, d, .inl rfl⟩
  | x :: rest, done, last, recs, env, H, d => by
    by_cases hk : x.kind = 3
    · exact ⟨done, x :: rest, recs, env, H, d, .inr ⟨x, rest, rfl, hk⟩⟩
    · obtain ⟨v, recs', env', H', d'⟩ := d.adv1 hc hT ho hk
      exact DI.adv hc hT ho rest d'
end
end Go.Hx
