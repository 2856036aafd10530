/- Regions: what stands between two worlds. -/
import Derived.Test.YtdbdebcakemmbaaGreatDoorHxSmallN
import Derived.Test.YtdbdebcakemmbaaGreatDoorHxExec
import Derived.Tactics
namespace Go.Hx
open Go
variable {σ : Nat → Value} {B : Nat} {E E' E'' : Emb} {g : Nat → Option AO} {w w' w'' : World} {nid : Nat} {P : Program} {ot : MOp → List AV → Option AV} {gm : Nat → Nat → Option AV}

/-- Which answers are good. -/
structure Ok {R : Type} (σ : Nat → Value) (A : Ans R) (T : R → Prop) : Prop where
  both : ∀ a b, T (A.both a b) → T a ∧ T b
  fail : ∀ n, ¬ T (A.fail n)
  split : ∀ i k, T (A.split i k) → ∃ v, (∀ E, VRel σ E v (σ i)) ∧ T (k v)

/-- From one world to a later one: what was the walk's own may be another, what was not is as it was. -/
structure Tr (B : Nat) (E : Emb) (g : Nat → Option AO) (next : Nat) (w : World) (E' : Emb) (g' : Nat → Option AO) (next' : Nat) (w' : World) : Prop where
  keep : ∀ id, id < next → E' id = E id
  le : next ≤ next'
  size : w.heap.size ≤ w'.heap.size
  frame : ∀ b, b < w.heap.size → (∀ id o x, g id = some o → E id = some x → x.1 ≠ b) → w'.heap[b]? = w.heap[b]?
  os : w'.os = w.os
  tape : w'.tape = w.tape
  out : w'.output = w.output
  new : ∀ id x, next ≤ id → E' id = some x → B ≤ x.1 ∧ (w.heap.size ≤ x.1 ∨ ∃ i o y, g i = some o ∧ E i = some y ∧ y.1 = x.1)
  dom : ∀ id o, g' id = some o → next ≤ id ∨ ∃ o', g id = some o'

/-- The objects, the numbers and the package's variables, as they stand. -/
structure HR (σ : Nat → Value) (B : Nat) (gm : Nat → Nat → Option AV) (E : Emb) (h : Heap) (w : World) : Prop where
  obj : HObj σ B E h.objs.get w
  fresh : ∀ id, h.next ≤ id → E id = none
  size : B ≤ w.heap.size
  gm : GmOk σ gm w
/-- The package's variables lie below. -/
def GmB (B : Nat) (gm : Nat → Nat → Option AV) : Prop := ∀ g off v, gm g off = some v → g < B

theorem Tr.refl (E : Emb) (g : Nat → Option AO) (next : Nat) (w : World) (hf : ∀ id, next ≤ id → E id = none) : Tr B E g next w E g next w :=
  ⟨fun _ _ => rfl, Nat.le_refl _, Nat.le_refl _, fun _ _ _ => rfl, rfl, rfl, rfl, (fun id x h hx => by rw [hf id h] at hx; cases hx), fun id o h => .inr ⟨o, h⟩⟩
theorem Tr.trans {g g' g'' : Nat → Option AO} {n n' n'' : Nat} (hob : ∀ id o, g id = some o → ∃ x, E id = some x ∧ x.1 < w.heap.size ∧ id < n) (a : Tr B E g n w E' g' n' w') (b : Tr B E' g' n' w' E'' g'' n'' w'') : Tr B E g n w E'' g'' n'' w'' where
  keep id h := by rw [b.keep id (Nat.lt_of_lt_of_le h a.le), a.keep id h]
  le := Nat.le_trans a.le b.le
  size := Nat.le_trans a.size b.size
  frame k hk hf := by
    rw [b.frame k (Nat.lt_of_lt_of_le hk a.size) (fun id o x hid hx => ?_), a.frame k hk hf]
    rcases Nat.lt_or_ge id n with hl | hl
    · rcases a.dom id o hid with h | ⟨o', h⟩
      · omega
      · exact hf id o' x h (by rw [← a.keep id hl]; exact hx)
    · rcases (a.new id x hl hx).2 with h | ⟨i, o', y, h1, h2, h3⟩
      · omega
      · rw [← h3]; exact hf i o' y h1 h2
  os := b.os.trans a.os
  tape := b.tape.trans a.tape
  out := b.out.trans a.out
  new id x h hx := by
    rcases Nat.lt_or_ge id n' with hl | hl
    · rw [b.keep id hl] at hx
      exact a.new id x h hx
    · obtain ⟨hB, h'⟩ := b.new id x hl hx
      refine ⟨hB, ?_⟩
      rcases h' with h' | ⟨i, o, y, h1, h2, h3⟩
      · exact .inl (Nat.le_trans a.size h')
      · rcases Nat.lt_or_ge i n with hi | hi
        · rcases a.dom i o h1 with h' | ⟨o', h'⟩
          · omega
          · exact .inr ⟨i, o', y, h', by rw [← a.keep i hi]; exact h2, h3⟩
        · rcases (a.new i y hi h2).2 with h' | ⟨i', o', y', e1, e2, e3⟩
          · exact .inl (by rw [← h3]; exact h')
          · exact .inr ⟨i', o', y', e1, e2, e3.trans h3⟩
  dom id o h := by
    rcases b.dom id o h with h' | ⟨o', h'⟩
    · exact .inl (Nat.le_trans a.le h')
    · exact a.dom id o' h'
theorem HR.own {h : Heap} (H : HR σ B gm E h w) : ∀ id o, h.objs.get id = some o → ∃ x, E id = some x ∧ x.1 < w.heap.size ∧ id < h.next := fun id o hid => by
  obtain ⟨x, a, b, c, d⟩ := H.obj.obj id o hid
  refine ⟨x, a, c, ?_⟩
  rcases Nat.lt_or_ge id h.next with h' | h'
  · exact h'
  · rw [H.fresh id h'] at a; cases a
theorem Tr.emb {g' : Nat → Option AO} {n n' : Nat} (a : Tr B E g n w E' g' n' w') (hf : ∀ id, n ≤ id → E id = none) : Emb.le E E' := fun id x h => by
  rcases Nat.lt_or_ge id n with hl | hl
  · rw [a.keep id hl]; exact h
  · rw [hf id hl] at h; cases h
theorem gm_keep (hb : GmB B gm) (hB : B ≤ w.heap.size) (h : GmOk σ gm w) (hf : ∀ b, b < B → w'.heap[b]? = w.heap[b]?) : GmOk σ gm w' := fun g off v hv => by
  obtain ⟨u, hu, hr⟩ := h g off v hv
  refine ⟨u, ?_, hr⟩
  simp only [World.cell?, hf g (hb g off v hv)] at hu ⊢
  exact hu
/-- One operation is such a step. -/
theorem SPost.tr {h : Heap} (H : HR σ B gm E h w) (hb : GmB B gm) {r : AV} {ws : Ws} {u : Value} {objs : T AO} {n : Nat} (hobjs : objs.get = upd h.objs.get ws) (hn : h.next ≤ n) (hnid : h.next ≤ nid ∧ (nid < n ∨ E' nid = none)) (p : SPost σ B E h.objs.get w nid r ws u w' E') :
    HR σ B gm E' ⟨n, objs⟩ w' ∧ Tr B E h.objs.get h.next w E' objs.get n w' := by
  have keep : ∀ id, id ≠ nid → E' id = E id := p.keep
  refine ⟨⟨by rw [show (⟨n, objs⟩ : Heap).objs = objs from rfl, hobjs]; exact p.heap, fun id hid => ?_, Nat.le_trans H.size p.size, gm_keep hb H.size H.gm fun b hlt => p.frame b (Nat.lt_of_lt_of_le hlt H.size) fun id o x hid hx => ?_⟩, ⟨fun id hid => keep id (by omega), hn, p.size, p.frame, p.os, p.tape, p.out, fun id x hid hx => ?_, fun id o hid => ?_⟩⟩
  · have hid' : n ≤ id := hid
    by_cases e : id = nid
    · rcases hnid.2 with h' | h'
      · omega
      · rw [e]; exact h'
    · rw [keep id e]; exact H.fresh id (by omega)
  · obtain ⟨x', a, b', c, d⟩ := H.obj.obj id o hid
    have e : x' = x := Option.some.inj (a.symm.trans hx)
    subst e
    omega
  · by_cases e : id = nid
    · subst e; exact p.new x hx
    · rw [keep id e, H.fresh id hid] at hx; cases hx
  · rw [hobjs] at hid
    rcases p.dom id o hid with h' | h'
    · exact .inl (by omega)
    · exact .inr h'

/-- A frame: how many temporaries; which of them are let go. -/
structure Fr where
  n : Nat
  mask : Nat
/-- The frame's temporaries. -/
structure EnvR (σ : Nat → Value) (E : Emb) (n : Fr) (env : T AV) (a : Act) : Prop where
  defers : a.defers = []
  size : a.tmps.size = n.n
  val : ∀ i v, env.get i = some v → ∃ u, a.tmps[i]? = some u ∧ VRel σ E v u
  free : ∀ d, n.mask.testBit d = true → env.get d = none
theorem EnvR.mono {n : Fr} {env : T AV} {a : Act} (h : EnvR σ E n env a) (he : Emb.le E E') : EnvR σ E' n env a :=
  ⟨h.defers, h.size, fun i v hv => let ⟨u, a, b⟩ := h.val i v hv; ⟨u, a, b.mono he⟩, h.free⟩
theorem EnvR.opd {n : Fr} {env : T AV} {a : Act} (h : EnvR σ E n env a) {x : Operand} {m : MOpd} (hx : cOpd x = some m) {v : AV} (hv : evc env m = some v) : VRel σ E v (a.eval x) := by
  cases x with
  | tmp t =>
    cases hx
    obtain ⟨u, hu, hr⟩ := h.val t v hv
    have : a.eval (.tmp t) = u := by simp [Act.eval, Array.getD_eq_getD_getElem?, hu]
    rw [this]; exact hr
  | const c =>
    simp only [cOpd, Option.map_eq_some_iff] at hx
    obtain ⟨z, hz, rfl⟩ := hx
    cases hv
    exact cval_rel hz
  | global i => cases hx; cases hv; exact .gptr i 0
  | func f => cases hx; cases hv; exact .func f [] [] #[] #[] .nil .nil
section
variable {R : Type} {A : Ans R} {T : R → Prop}
theorem evs_sound (hT : Ok σ A T) {n : Fr} {env : Hx.T AV} {a : Act} (h : EnvR σ E n env a) {code : Nat} : ∀ (xs : List Operand) (ms : List MOpd), cOpds xs = some ms → ∀ (k : List AV → R), T (evs (A.fail code) env ms k) → ∃ vs, VRels σ E vs (xs.map a.eval) ∧ T (k vs)
  | [], ms, hc, k, hk => by cases hc; exact ⟨[], .nil, hk⟩
  | x :: xs, ms, hc, k, hk => by
    simp only [cOpds] at hc
    split at hc
    · rename_i m ms' hm hms
      cases hc
      cases m with
      | t i =>
        have e : evs (A.fail code) env (.t i :: ms') k = Option.rec (motive := fun _ => R) (A.fail code) (fun v => evs (A.fail code) env ms' fun vs => k (v :: vs)) (env.get i) := rfl
        rw [e] at hk
        cases hg : env.get i with
        | none => rw [hg] at hk; exact (hT.fail _ hk).elim
        | some v =>
          rw [hg] at hk
          obtain ⟨vs, hvs, hk'⟩ := evs_sound hT h xs ms' hms _ hk
          exact ⟨v :: vs, .cons _ _ _ _ (h.opd hm hg) hvs, hk'⟩
      | v z =>
        obtain ⟨vs, hvs, hk'⟩ := evs_sound hT h xs ms' hms _ hk
        exact ⟨z :: vs, .cons _ _ _ _ (h.opd hm rfl) hvs, hk'⟩
    · cases hc
noncomputable def putEnv (env : Hx.T AV) (dst : Option Nat) (v : AV) : Hx.T AV := match dst with
  | none => env
  | some d => Hx.T.set (d + 1) env d (some v)
theorem setDst_eq (env : Hx.T AV) (dst : Option Nat) (v : AV) (k : Hx.T AV → R) : setDst env dst v k = k (putEnv env dst v) := by
  cases dst with
  | none => rfl
  | some d =>
    show Hx.T.put (d + 1) env d (some v) k = _
    rw [T.put_eq]
    rfl
theorem putEnv_get (env : Hx.T AV) (d : Nat) (v : AV) (i : Nat) : (putEnv env (some d) v).get i = if i = d then some v else env.get i := by
  unfold putEnv
  rw [T.get_set _ _ _ _ _ Nat.lt_two_pow_self]
theorem EnvR.put {n : Fr} {env : Hx.T AV} {a : Act} (h : EnvR σ E n env a) {dst : Option Nat} (hd : ∀ d, dst = some d → d < n.n ∧ n.mask.testBit d = false) {v : AV} {u : Value} (hr : VRel σ E v u) :
    EnvR σ E n (putEnv env dst v) (a.put dst u) := by
  cases dst with
  | none => exact h
  | some d =>
    obtain ⟨hlt, hm⟩ := hd d rfl
    refine ⟨h.defers, by simp [Act.put, h.size], fun i x hx => ?_, fun i hi => ?_⟩
    · rw [putEnv_get] at hx
      simp only [Act.put]
      split at hx
      · rename_i e
        cases hx
        subst e
        exact ⟨u, by rw [Array.getElem?_setIfInBounds_self_of_lt (by rw [h.size]; exact hlt)], hr⟩
      · rename_i e
        obtain ⟨u', hu, hr'⟩ := h.val i x hx
        exact ⟨u', by rw [Array.getElem?_setIfInBounds_ne (fun h => e h.symm)]; exact hu, hr'⟩
    · rw [putEnv_get, if_neg (fun e => by subst e; rw [hm] at hi; cases hi)]
      exact h.free i hi
/-- A temporary that is let go is written. -/
theorem EnvR.drop {n : Fr} {env : Hx.T AV} {a : Act} (h : EnvR σ E n env a) {d : Nat} (hm : n.mask.testBit d = true) (u : Value) : EnvR σ E n env (a.put (some d) u) := by
  refine ⟨h.defers, by simp [Act.put, h.size], fun i x hx => ?_, h.free⟩
  have e : i ≠ d := fun e => by subst e; rw [h.free i hm] at hx; cases hx
  obtain ⟨u', hu, hr'⟩ := h.val i x hx
  exact ⟨u', by simp only [Act.put]; rw [Array.getElem?_setIfInBounds_ne (fun h => e h.symm)]; exact hu, hr'⟩
/-! ### Copies -/
def SameAs (σ : Nat → Value) (E : Emb) (a : Act) (x : MOpd) (u : Value) : Prop := match x with
  | .t m => a.tmps.getD m undef = u
  | .v z => VRel σ E z u
def SubR (σ : Nat → Value) (E : Emb) (l : Sub) (a : Act) : Prop := ∀ p ∈ l, SameAs σ E a p.2 (a.tmps.getD p.1 undef)
theorem SubR.nil (σ : Nat → Value) (E : Emb) (a : Act) : SubR σ E [] a := fun p h => by simp at h
theorem SameAs.mono {a : Act} {x : MOpd} {u : Value} (h : SameAs σ E a x u) (he : Emb.le E E') : SameAs σ E' a x u := by
  cases x with
  | t m => exact h
  | v z => exact VRel.mono he h
theorem SubR.mono {l : Sub} {a : Act} (h : SubR σ E l a) (he : Emb.le E E') : SubR σ E' l a := fun p hp => (h p hp).mono he
theorem getD_put_ne {a : Act} {d m : Nat} {u : Value} (h : m ≠ d) : (a.put (some d) u).tmps.getD m undef = a.tmps.getD m undef := by
  simp only [Act.put, Array.getD_eq_getD_getElem?]
  rw [Array.getElem?_setIfInBounds_ne (fun e => h e.symm)]
theorem SubR.put {l : Sub} {a : Act} (h : SubR σ E l a) (dst : Option Nat) (u : Value) : SubR σ E (subKill dst l) (a.put dst u) := by
  cases dst with
  | none => exact h
  | some d =>
    intro p hp
    simp only [subKill, List.mem_filter, Bool.and_eq_true, Bool.not_eq_true'] at hp
    obtain ⟨hp, h1, h2⟩ := hp
    have n1 : p.1 ≠ d := fun e => by rw [e] at h1; simp at h1
    rw [getD_put_ne n1]
    have := h p hp
    cases hx : p.2 with
    | v z => rw [hx] at this; exact this
    | t m =>
      rw [hx] at this h2
      have n2 : m ≠ d := fun e => by rw [e] at h2; simp [isT] at h2
      show (a.put (some d) u).tmps.getD m undef = _
      rw [getD_put_ne n2]
      exact this
theorem subGet_mem {n : Nat} {x : MOpd} : ∀ {l : Sub}, subGet n l = some x → (n, x) ∈ l
  | [], h => by cases h
  | (d, y) :: l, h => by
    simp only [subGet] at h
    split at h
    · rename_i e
      cases h
      rw [Nat.eq_of_beq_eq_true e]
      exact List.mem_cons_self
    · exact List.mem_cons_of_mem _ (subGet_mem h)
/-- What stands in for an operand is as it. -/
theorem subOpd_same {l : Sub} {a : Act} (h : SubR σ E l a) {x : Operand} {m : MOpd} (hx : cOpd x = some m) : SameAs σ E a (subOpd l m) (a.eval x) := by
  cases x with
  | tmp t =>
    cases hx
    unfold subOpd
    dsimp only
    split
    · rename_i y hy
      exact h _ (subGet_mem hy)
    · rfl
  | const c =>
    simp only [cOpd, Option.map_eq_some_iff] at hx
    obtain ⟨z, hz, rfl⟩ := hx
    exact cval_rel hz
  | global i => cases hx; exact .gptr i 0
  | func f => cases hx; exact .func f [] [] #[] #[] .nil .nil
theorem EnvR.same {n : Fr} {env : Hx.T AV} {a : Act} (he : EnvR σ E n env a) {x : MOpd} {u : Value} (h : SameAs σ E a x u) {v : AV} (hv : evc env x = some v) : VRel σ E v u := by
  cases x with
  | t m =>
    obtain ⟨u', hu, hr⟩ := he.val m v hv
    have h : a.tmps.getD m undef = u := h
    rw [← h, Array.getD_eq_getD_getElem?, hu]
    exact hr
  | v z => cases hv; exact h
theorem evs_sub (hT : Ok σ A T) {n : Fr} {env : Hx.T AV} {a : Act} (he : EnvR σ E n env a) {l : Sub} (hl : SubR σ E l a) {code : Nat} : ∀ (xs : List Operand) (ms : List MOpd), cOpds xs = some ms → ∀ (k : List AV → R), T (evs (A.fail code) env (ms.map (subOpd l)) k) → ∃ vs, VRels σ E vs (xs.map a.eval) ∧ T (k vs)
  | [], ms, hc, k, hk => by cases hc; exact ⟨[], .nil, hk⟩
  | x :: xs, ms, hc, k, hk => by
    simp only [cOpds] at hc
    split at hc
    · rename_i m ms' hm hms
      cases hc
      have hs := subOpd_same hl hm
      rw [List.map_cons] at hk
      generalize subOpd l m = y at hs hk
      cases y with
      | t i =>
        have e : evs (A.fail code) env (.t i :: ms'.map (subOpd l)) k = Option.rec (motive := fun _ => R) (A.fail code) (fun v => evs (A.fail code) env (ms'.map (subOpd l)) fun vs => k (v :: vs)) (env.get i) := rfl
        rw [e] at hk
        cases hg : env.get i with
        | none => rw [hg] at hk; exact (hT.fail _ hk).elim
        | some v =>
          rw [hg] at hk
          obtain ⟨vs, hvs, hk'⟩ := evs_sub hT he hl xs ms' hms _ hk
          exact ⟨v :: vs, .cons _ _ _ _ (he.same hs hg) hvs, hk'⟩
      | v z =>
        obtain ⟨vs, hvs, hk'⟩ := evs_sub hT he hl xs ms' hms _ hk
        exact ⟨z :: vs, .cons _ _ _ _ (he.same hs rfl) hvs, hk'⟩
    · cases hc
theorem applyWs_sound : ∀ (ws : Ws) (t : Hx.T AO) (k : Hx.T AO → R), ∃ t', applyWs t ws k = k t' ∧ t'.get = upd t.get ws
  | [], t, k => ⟨t, rfl, rfl⟩
  | (id, o) :: ws, t, k => by
    have e : applyWs t ((id, o) :: ws) k = Hx.T.put (id + 1) t id o fun t => applyWs t ws k := rfl
    rw [e, T.put_eq]
    obtain ⟨t', h1, h2⟩ := applyWs_sound ws (Hx.T.set (id + 1) t id o) k
    refine ⟨t', h1, h2.trans ?_⟩
    simp only [upd]
    congr 1
    funext m
    rw [T.get_set _ _ _ _ _ Nat.lt_two_pow_self]
    rfl
theorem each_sound (hT : Ok σ A T) {code : Nat} {k : AV × Ws → R} : ∀ (l : List (AV × Ws)), T (each A (A.fail code) k l) → l ≠ [] ∧ ∀ x ∈ l, T (k x)
  | [], h => (hT.fail _ h).elim
  | [x], h => ⟨by simp, fun z hz => by rw [List.mem_singleton.1 hz]; exact h⟩
  | x :: y :: xs, h => by
    obtain ⟨h1, h2⟩ := hT.both _ _ h
    obtain ⟨_, h3⟩ := each_sound hT (y :: xs) h2
    refine ⟨by simp, fun z hz => ?_⟩
    rcases List.mem_cons.1 hz with rfl | hz
    · exact h1
    · exact h3 z hz

/-! ### Opaque values, put in -/
theorem sub0_rel {i : Nat} {v : AV} (hv : ∀ E, VRel σ E v (σ i)) {x : AV} {u : Value} (h : VRel σ E x u) : VRel σ E (sub0 i v x) u := by
  unfold sub0
  split
  · rename_i j
    split
    · rename_i e
      have e := Nat.eq_of_beq_eq_true e
      subst e
      cases h
      exact hv E
    · exact h
  · exact h
theorem subs0_rel {i : Nat} {v : AV} (hv : ∀ E, VRel σ E v (σ i)) : ∀ {x : List AV} {u : List Value}, VRels σ E x u → VRels σ E (subs0 i v x) u
  | [], _, h => h
  | x :: xs, _, h => by
    cases h with
    | cons _ u _ us h hs => exact .cons _ _ _ _ (sub0_rel hv h) (subs0_rel hv hs)
theorem sub1_rel {i : Nat} {v : AV} (hv : ∀ E, VRel σ E v (σ i)) {x : AV} {u : Value} (h : VRel σ E x u) : VRel σ E (sub1 i v x) u := by
  unfold sub1
  split
  · rename_i j
    split
    · rename_i e
      have e := Nat.eq_of_beq_eq_true e
      subst e
      cases h
      exact hv E
    · exact h
  · cases h with
    | agg cs c h => exact .agg _ _ (subs0_rel hv h)
  · cases h with
    | tup cs c h => exact .tup _ _ (subs0_rel hv h)
  · cases h with
    | iface t v u h => exact .iface _ _ _ (sub0_rel hv h)
  · exact h
theorem subs1_rel {i : Nat} {v : AV} (hv : ∀ E, VRel σ E v (σ i)) : ∀ {x : List AV} {u : List Value}, VRels σ E x u → VRels σ E (subs1 i v x) u
  | [], _, h => h
  | x :: xs, _, h => by
    cases h with
    | cons _ u _ us h hs => exact .cons _ _ _ _ (sub1_rel hv h) (subs1_rel hv hs)
theorem settle_sound (hT : Ok σ A T) {α : Type} {code : Nat} {try_ : List AV → List α} {k : List α → R} {us : List Value} : ∀ (n : Nat) (vs : List AV), VRels σ E vs us → T (settle A code try_ k n vs) → ∃ vs', VRels σ E vs' us ∧ try_ vs' ≠ [] ∧ T (k (try_ vs'))
  | 0, _, _, h => (hT.fail _ h).elim
  | n + 1, vs, hv, h => by
    have h2 : T (match try_ vs with
      | [] => match opqs1 vs with
        | some i => A.split i fun v => settle A code try_ k n (subs1 i v vs)
        | none => A.fail code
      | x :: xs => k (x :: xs)) := h
    split at h2
    · split at h2
      · rename_i i _
        obtain ⟨v, hr, hk⟩ := hT.split _ _ h2
        exact settle_sound hT n _ (subs1_rel hr hv) hk
      · exact (hT.fail _ h2).elim
    · rename_i x xs e
      exact ⟨vs, hv, by rw [e]; simp, by rw [e]; exact h2⟩
/-- One operation that is no call. -/
theorem doSmall_sound (hT : Ok σ A T) {cx : Cx} {op : MOp} {vs : List AV} {objs : Hx.T AO} {k : AV → Ws → Hx.T AO → R} {us : List Value} (hv : VRels σ E vs us) (h : T (doSmall A cx op vs objs nid k)) :
    ∃ vs', VRels σ E vs' us ∧ small cx.gm cx.ot op objs.get nid vs' ≠ [] ∧ ∀ x ∈ small cx.gm cx.ot op objs.get nid vs', T (applyWs objs x.2 fun objs => k x.1 x.2 objs) := by
  have slow : T (doSmallS A cx op vs objs nid k) → ∃ vs', VRels σ E vs' us ∧ small cx.gm cx.ot op objs.get nid vs' ≠ [] ∧ ∀ x ∈ small cx.gm cx.ot op objs.get nid vs', T (applyWs objs x.2 fun objs => k x.1 x.2 objs) := fun h => by
    unfold doSmallS at h
    rw [smallF_fun] at h
    obtain ⟨vs', hv', hne, hk⟩ := settle_sound hT _ _ hv h
    exact ⟨vs', hv', hne, (each_sound hT _ hk).2⟩
  unfold doSmall at h
  have e := smallF_eq (gm := cx.gm) (ot := cx.ot) (get := objs.get) (nid := nid) op vs
  generalize hs : smallF cx.gm cx.ot op objs.get nid vs = l at h
  rw [hs] at e
  cases l with
  | nil => exact slow h
  | cons x l =>
    cases l with
    | nil =>
      refine ⟨vs, hv, by rw [← e]; simp, fun y hy => ?_⟩
      rw [← e] at hy
      rw [List.mem_singleton.1 hy]
      exact h
    | cons y l => exact slow h
end
end Go.Hx
/- Regions whose order is that of the text. -/
namespace Go.Hx
open Go
variable {σ : Nat → Value} {B : Nat} {E E' E'' : Emb} {g : Nat → Option AO} {w w' w'' : World} {nid : Nat} {P : Program} {ot : MOp → List AV → Option AV} {gm : Nat → Nat → Option AV}

/-- A function is called: it is entered and comes back, or it has no body and its value is told at once. -/
def Enters (P : Program) (f : FuncId) (vs : Array Value) (w : World) (Q : Value → World → Prop) : Prop :=
  ((callFunc f vs).run P w = .ok (.enter f vs) w ∧ Calls P f vs w fun e w' => ∃ u, e = .returned u ∧ Q u w') ∨ ∃ u w', (callFunc f vs).run P w = .ok (.value u) w' ∧ Q u w'
/-- What is asked of the calls. -/
def CallOk {R : Type} (P : Program) (σ : Nat → Value) (B : Nat) (gm : Nat → Nat → Option AV) (T : R → Prop) (call : Call R) : Prop :=
  ∀ f args vs h E w k, VRels σ E args vs.toList → HR σ B gm E h w → T (call f args h k) →
    Enters P f vs w fun u w' => ∃ r E' h', VRel σ E' r u ∧ HR σ B gm E' h' w' ∧ Tr B E h.objs.get h.next w E' h'.objs.get h'.next w' ∧ T (k r h')

section
variable {R : Type} {A : Ans R} {T : R → Prop}
theorem wp_of_run {o : Oper} {a : Act} {next : Act → World → Prop} {Q : Exit → Act → World → Prop} {u : Value} {nx : Next} (h : (execOp a.eval o).run P w = .ok nx w') (hx : nx = .value u ∨ (nx = .skip ∧ u = undef)) (hq : next (a.put o.dst u) w') : o.wp P a w next Q := by
  unfold Oper.wp
  rw [h]
  rcases hx with rfl | ⟨rfl, rfl⟩ <;> exact hq
theorem doCall_sound (hT : Ok σ A T) {call : Call R} (hcall : CallOk P σ B gm T call) {h : Heap} (H : HR σ B gm E h w) {o : Oper} {c : Go.Call} {f : Operand} (ho : o.op = .call c) (hf : c.callee = .value f) {a : Act} {vs : List AV} (hv : VRels σ E vs ((f :: c.args.toList).map a.eval)) {k : AV → Heap → R}
    (hk : T (doCall A call vs h k)) {next : Act → World → Prop} {Q : Exit → Act → World → Prop}
    (hq : ∀ r u E' h' w', VRel σ E' r u → HR σ B gm E' h' w' → Tr B E h.objs.get h.next w E' h'.objs.get h'.next w' → T (k r h') → next (a.put o.dst u) w') : o.wp P a w next Q := by
  unfold doCall at hk
  split at hk
  · rename_i fn first captured args
    cases hv with
    | cons _ u _ us h1 hs =>
      generalize hfe : a.eval f = fv at h1
      cases h1 with
      | func _ _ _ av cv ha hc =>
        have hargs : VRels σ E (first ++ args ++ captured) ((av ++ c.args.map a.eval ++ cv)).toList := by
          simp only [Array.toList_append, Array.toList_map]
          exact (ha.append hs).append hc
        have hrun : (execOp a.eval o).run P w = (callFunc fn (av ++ c.args.map a.eval ++ cv)).run P w := by
          simp [execOp, ho, resolve, hf, hfe, Deferred.ofValue, invoke]
        unfold Oper.wp
        rw [hrun]
        rcases hcall _ _ _ _ _ _ _ hargs H hk with ⟨h1, h2⟩ | ⟨u, w', h1, r, E', h', e1, e2, e3, e4⟩
        · rw [h1]
          refine Calls.mono h2 fun e w' hh => ?_
          obtain ⟨u, rfl, r, E', h', e1, e2, e3, e4⟩ := hh
          exact hq r u E' h' w' e1 e2 e3 e4
        · rw [h1]
          exact hq r u E' h' w' e1 e2 e3 e4
  · exact (hT.fail _ hk).elim

def boolOf : Value → Option Bool
  | .bool b => some b
  | _ => none
theorem yielded_of {ops : Array Oper} {tmps : Array Value} {j t : Nat} {u : Value} (hd : (ops[j]?).bind (·.dst) = some t) (hu : tmps[t]? = some u) : yielded ops tmps j = boolOf u := by
  simp only [yielded, hd, Option.bind_some, hu]
  cases u <;> rfl
/-- What a guard says, whichever frame it is looked at in. -/
def GuardSays (σ : Nat → Value) (ops : Array Oper) (o : Oper) (env : Hx.T AV) (r : Bool) : Prop :=
  ∀ (E : Emb) (a : Act), (∀ t, (∃ g b, o.guard = some (g, b) ∧ (ops[g]?).bind (·.dst) = some t) → ∀ v, env.get t = some v → ∃ u, a.tmps[t]? = some u ∧ VRel σ E v u) → Region.wanted o (yielded ops a.tmps) = r
theorem guarded_univ (hT : Ok σ A T) {code : Nat} {env : Hx.T AV} {ops : Array Oper} {o : Oper} {gd : Option (Nat × Bool)} (hg : (match o.guard with
    | none => some none
    | some (g, b) => match (ops[g]?).bind (·.dst) with
      | some t => some (some (t, b))
      | none => none) = some gd) {run skip : R} (h : T (guarded A code run skip gd env)) :
    (T run ∧ GuardSays σ ops o env true) ∨ (T skip ∧ GuardSays σ ops o env false) := by
  unfold GuardSays Region.wanted
  cases hgd : o.guard with
  | none =>
    rw [hgd] at hg
    cases hg
    exact .inl ⟨h, fun _ _ _ => rfl⟩
  | some p =>
    obtain ⟨j, b⟩ := p
    rw [hgd] at hg
    dsimp only at hg ⊢
    cases hd : (ops[j]?).bind (·.dst) with
    | none => rw [hd] at hg; cases hg
    | some t =>
      rw [hd] at hg
      cases hg
      unfold guarded at h
      dsimp only at h
      cases hv : env.get t with
      | none => rw [hv] at h; exact (hT.fail _ h).elim
      | some v =>
        rw [hv] at h
        have key : ∀ c : Option Bool, (∀ u E, VRel σ E v u → boolOf u = c) → ∀ (E : Emb) (a : Act), (∀ t', (∃ g b', some (j, b) = some (g, b') ∧ (ops[g]?).bind (·.dst) = some t') → ∀ v, env.get t' = some v → ∃ u, a.tmps[t']? = some u ∧ VRel σ E v u) → (yielded ops a.tmps j == some b) = (c == some b) := fun c hc E a ha => by
          obtain ⟨u, hu, hr⟩ := ha t ⟨j, b, rfl, hd⟩ v hv
          rw [yielded_of hd hu, hc u E hr]
        have fin : ∀ c : Bool, (∀ u E, VRel σ E v u → boolOf u = some c) → T (if (if c then b else !b) then run else skip) → (T run ∧ (some c == some b) = true) ∨ (T skip ∧ (some c == some b) = false) := fun c hc hk => by
          revert hk
          cases c <;> cases b <;> intro hk <;> simp only [if_true, Bool.false_eq_true, if_false, Bool.not_false, Bool.not_true] at hk <;> first | exact .inl ⟨hk, rfl⟩ | exact .inr ⟨hk, rfl⟩
        have fin2 : ∀ c : Bool, (∀ u E, VRel σ E v u → boolOf u = some c) → T (if (if c then b else !b) then run else skip) → _ := fun c hc hk => (fin c hc hk).imp (fun h => And.intro h.1 fun E a ha => (key (some c) hc E a ha).trans h.2) (fun h => And.intro h.1 fun E a ha => (key (some c) hc E a ha).trans h.2)
        cases v with
        | opq i =>
          obtain ⟨v, hv', hk⟩ := hT.split _ _ h
          cases v with
          | bool c => exact fin2 c (fun u E hu => by cases hu; have := hv' E; generalize σ i = z at this; cases this; rfl) hk
          | _ => exact (hT.fail _ hk).elim
        | bool c => exact fin2 c (fun u E hu => by cases hu; rfl) h
        | _ =>
          refine .inr ⟨h, fun E a ha => ?_⟩
          rw [key none (fun u E hu => by cases hu <;> rfl) E a ha]
          rfl
theorem guarded_sound (hT : Ok σ A T) {code : Nat} {n : Fr} {env : Hx.T AV} {a : Act} (he : EnvR σ E n env a) {ops : Array Oper} {o : Oper} {gd : Option (Nat × Bool)} (hg : (match o.guard with
    | none => some none
    | some (g, b) => match (ops[g]?).bind (·.dst) with
      | some t => some (some (t, b))
      | none => none) = some gd) {run skip : R} (h : T (guarded A code run skip gd env)) :
    (Region.wanted o (yielded ops a.tmps) = true ∧ T run) ∨ (Region.wanted o (yielded ops a.tmps) = false ∧ T skip) := by
  rcases guarded_univ hT hg h with ⟨h1, h2⟩ | ⟨h1, h2⟩
  · exact .inl ⟨h2 E a fun t _ v hv => he.val t v hv, h1⟩
  · exact .inr ⟨h2 E a fun t _ v hv => he.val t v hv, h1⟩
end
end Go.Hx
