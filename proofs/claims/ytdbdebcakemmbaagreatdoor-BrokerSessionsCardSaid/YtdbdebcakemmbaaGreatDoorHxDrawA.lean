/- Regions that draw their order: what comes ahead of what; what is the same whatever the heap is. -/
import Derived.Test.YtdbdebcakemmbaaGreatDoorHxSoundC
namespace Go.Hx
open Go

/-! ### What comes ahead -/
theorem foldl_bits (acc : Array Nat) (i : Nat) : ∀ (l : List Edge) (s : Nat), (l.foldl (fun s e => if Region.binds .any e then s ||| 2 ^ e.on ||| acc.getD e.on 0 else s) s).testBit i = true →
    s.testBit i = true ∨ ∃ e ∈ l, Region.binds .any e = true ∧ (e.on = i ∨ (acc.getD e.on 0).testBit i = true)
  | [], s, h => .inl h
  | e :: l, s, h => by
    rw [List.foldl_cons] at h
    rcases foldl_bits acc i l _ h with h | ⟨e', he', hb, h⟩
    · by_cases hb : Region.binds .any e = true
      · rw [if_pos hb] at h
        simp only [Nat.testBit_or, Nat.testBit_two_pow, Bool.or_eq_true, decide_eq_true_eq] at h
        rcases h with (h | h) | h
        · exact .inl h
        · exact .inr ⟨e, List.mem_cons_self, hb, .inl h⟩
        · exact .inr ⟨e, List.mem_cons_self, hb, .inr h⟩
      · rw [if_neg hb] at h; exact .inl h
    · exact .inr ⟨e', List.mem_cons_of_mem _ he', hb, h⟩
theorem getD_push_lt {acc : Array Nat} {v j : Nat} (h : j < acc.size) : (acc.push v).getD j 0 = acc.getD j 0 := by
  simp [Array.getD_eq_getD_getElem?, Array.getElem?_push, Nat.ne_of_lt h]
theorem getD_big {acc : Array Nat} {j : Nat} (h : acc.size ≤ j) : acc.getD j 0 = 0 := by
  simp [Array.getD_eq_getD_getElem?, Array.getElem?_eq_none h]
theorem before_go : ∀ (l : List Oper) (pre : List Oper) (acc : Array Nat), acc.size = pre.length →
    (∀ j o i, pre[j]? = some o → (acc.getD j 0).testBit i = true → ∃ e ∈ o.after.toList, Region.binds .any e = true ∧ (e.on = i ∨ (acc.getD e.on 0).testBit i = true)) →
    ∀ j o i, (pre ++ l)[j]? = some o → ((l.foldl (fun acc o => acc.push (o.after.foldl (fun s e => if Region.binds .any e then s ||| 2 ^ e.on ||| acc.getD e.on 0 else s) 0)) acc).getD j 0).testBit i = true →
      ∃ e ∈ o.after.toList, Region.binds .any e = true ∧ (e.on = i ∨ ((l.foldl (fun acc o => acc.push (o.after.foldl (fun s e => if Region.binds .any e then s ||| 2 ^ e.on ||| acc.getD e.on 0 else s) 0)) acc).getD e.on 0).testBit i = true)
  | [], pre, acc, _, h => fun j o i hj hb => h j o i (by simpa using hj) hb
  | x :: l, pre, acc, hs, h => fun j o i hj hb => by
    rw [List.foldl_cons] at hb ⊢
    refine before_go l (pre ++ [x]) _ (by simp [hs]) (fun j o i hj hb => ?_) j o i (by simpa using hj) hb
    have up : ∀ m, (acc.getD m 0).testBit i = true → ∀ v, ((acc.push v).getD m 0).testBit i = true := fun m hm v => by
      rcases Nat.lt_or_ge m acc.size with hl | hl
      · rw [getD_push_lt hl]; exact hm
      · rw [getD_big hl] at hm; simp at hm
    rcases Nat.lt_trichotomy j acc.size with hl | he | hg
    · rw [getD_push_lt hl] at hb
      obtain ⟨e, h1, h2, h3⟩ := h j o i (by rw [List.getElem?_append_left (by omega)] at hj; exact hj) hb
      exact ⟨e, h1, h2, h3.imp id fun h => up _ h _⟩
    · have hx : o = x := by
        rw [List.getElem?_append_right (by omega), he, hs] at hj
        simpa using hj.symm
      subst hx
      have e0 : ∀ v, (acc.push v).getD j 0 = v := fun v => by simp [Array.getD_eq_getD_getElem?, he]
      rw [e0, ← Array.foldl_toList] at hb
      rcases foldl_bits acc i _ _ hb with h | ⟨e, h1, h2, h3⟩
      · simp at h
      · exact ⟨e, h1, h2, h3.imp id fun h => up _ h _⟩
    · rw [getD_big (by simp; omega)] at hb; simp at hb
theorem before_spec {ops : Array Oper} {j i : Nat} {o : Oper} (hj : ops[j]? = some o) (hb : ((Region.before ops).getD j 0).testBit i = true) :
    ∃ e ∈ o.after.toList, Region.binds .any e = true ∧ (e.on = i ∨ ((Region.before ops).getD e.on 0).testBit i = true) := by
  have e : Region.before ops = ops.toList.foldl (fun acc o => acc.push (o.after.foldl (fun s e => if Region.binds .any e then s ||| 2 ^ e.on ||| acc.getD e.on 0 else s) 0)) #[] := by
    unfold Region.before
    rw [← Array.foldl_toList]
  rw [e] at hb ⊢
  exact before_go ops.toList [] #[] rfl (fun j o i h => by simp at h) j o i (by simpa using hj) hb

/-! ### The order -/
theorem mem_staged {x : DIn} {l : List (DIn × Nat)} {bars : List Nat} : ∀ (bs : List DIn) (m : Nat), x ∈ staged bars l m bs → (∃ m, (x, m) ∈ l) ∨ x ∈ bs
  | [], m, h => by
    simp only [staged, List.mem_map, List.mem_filter] at h
    obtain ⟨y, ⟨h1, _⟩, rfl⟩ := h
    exact .inl ⟨y.2, h1⟩
  | b :: bs, m, h => by
    simp only [staged, List.mem_append, List.mem_map, List.mem_filter, List.mem_cons] at h
    rcases h with ⟨y, ⟨h1, _⟩, rfl⟩ | rfl | h
    · exact .inl ⟨y.2, h1⟩
    · exact .inr List.mem_cons_self
    · exact (mem_staged bs _ h).imp id (List.mem_cons_of_mem _)
theorem mem_order {x : DIn} {l : List DIn} (h : x ∈ order l) : x ∈ l := by
  unfold order at h
  rcases mem_staged _ _ h with ⟨m, h⟩ | h
  · simp only [List.mem_map] at h
    obtain ⟨y, hy, e⟩ := h
    cases e
    exact hy
  · exact (List.mem_filter.1 h).1
theorem mem_dIns {P : Program} {ops : Array Oper} {x : DIn} (h : x ∈ dIns P ops) :
    ∃ o, ops[x.j]? = some o ∧ x.dst = o.dst ∧ x.looks = looksAt ops o (cOp P o.op).2 ∧ x.kind = kindOf (cOp P o.op).1 ∧ x.bef = (Region.before ops).getD x.j 0 := by
  unfold dIns at h
  simp only [List.mem_map] at h
  obtain ⟨y, hy, rfl⟩ := h
  have := List.mem_zipIdx hy
  simp only [Nat.zero_le, Nat.zero_add, true_and, Nat.sub_zero] at this
  obtain ⟨h1, h2⟩ := this
  exact ⟨y.1, by rw [h2]; simp at h1 ⊢, rfl, rfl, rfl, rfl⟩

/-- What is asked of two, the first ahead of the second. -/
structure Ahead (y x : DIn) : Prop where
  ne : y.j ≠ x.j
  no : y.bef.testBit x.j = false
  dst : ∀ d, x.dst = some d → y.dst ≠ some d
  late : ∀ d, x.dst = some d → d ∈ y.looks → x.bef.testBit y.j = true
  early : ∀ d, y.dst = some d → d ∈ x.looks → x.bef.testBit y.j = true
theorem dOk1_spec {done : List DIn} {last : Option Nat} {x : DIn} (h : dOk1 done last x = true) : (∀ y ∈ done, Ahead y x) ∧ (∀ b, last = some b → x.bef.testBit b = true) ∧ x.bef.testBit x.j = false := by
  unfold dOk1 at h
  simp only [Bool.and_eq_true] at h
  obtain ⟨⟨⟨⟨h1, h0⟩, h2⟩, h3⟩, h4⟩ := h
  refine ⟨fun y hy => ?_, fun b hb => by subst hb; exact h2, by simpa using h0⟩
  have a1 := List.all_eq_true.1 h1 y hy
  simp only [Bool.and_eq_true, Bool.not_eq_true'] at a1
  have hlook : ∀ (l : List Nat) (d : Nat), d ∈ l → l.any (Nat.beq d ·) = true := fun l d hd => List.any_eq_true.2 ⟨d, hd, Nat.beq_refl d⟩
  refine ⟨fun e => by rw [e] at a1; simp at a1, a1.2, fun d hd he => ?_, fun d hd hl => ?_, fun d hd hl => ?_⟩
  · rw [hd] at h3
    have := List.all_eq_true.1 h3 y hy
    rw [he] at this
    simp at this
  · rw [hd] at h3
    have := List.all_eq_true.1 h3 y hy
    simp only [Bool.and_eq_true, hlook _ _ hl, Bool.not_true, Bool.false_or] at this
    exact this.2
  · have := List.all_eq_true.1 h4 y hy
    rw [hd] at this
    simpa only [hlook _ _ hl, Bool.not_true, Bool.false_or] using this
theorem dOk_pairs : ∀ (rest done : List DIn) (last : Option Nat), dOk done last rest = true → (∀ y ∈ done, ∀ x ∈ rest, Ahead y x) ∧ rest.Pairwise Ahead
  | [], done, last, _ => ⟨fun _ _ _ h => by simp at h, .nil⟩
  | x :: xs, done, last, h => by
    simp only [dOk, Bool.and_eq_true] at h
    obtain ⟨h1, h2⟩ := dOk_pairs xs _ _ h.2
    refine ⟨fun y hy z hz => ?_, List.Pairwise.cons (fun z hz => h1 x List.mem_cons_self z hz) h2⟩
    rcases List.mem_cons.1 hz with rfl | hz
    · exact (dOk1_spec h.1).1 y hy
    · exact h1 y (List.mem_cons_of_mem _ hy) z hz
/-- Behind the last one of kind 3: all that comes. -/
theorem dOk_last {S : Nat → Prop} : ∀ (rest done : List DIn) (m : Nat), dOk done (some m) rest = true → (∀ y ∈ rest, S y.j → ∀ i, y.bef.testBit i = true → S i) → ∀ x ∈ rest, (∀ i, x.bef.testBit i = true → S i) → S m
  | [], _, _, _, _, x, hx, _ => by simp at hx
  | z :: zs, done, m, h, hS, x, hx, hb => by
    simp only [dOk, Bool.and_eq_true] at h
    have hm := (dOk1_spec h.1).2.1 m rfl
    rcases List.mem_cons.1 hx with rfl | hx
    · exact hb m hm
    · by_cases hk : Nat.beq z.kind 3 = true
      · rw [if_pos hk] at h
        exact hS z List.mem_cons_self (dOk_last zs _ _ h.2 (fun y hy => hS y (List.mem_cons_of_mem _ hy)) x hx hb) m hm
      · rw [if_neg hk] at h
        exact dOk_last zs _ _ h.2 (fun y hy => hS y (List.mem_cons_of_mem _ hy)) x hx hb

/-! ### What is the same whatever the heap is -/
theorem small_indep {gm : Nat → Nat → Option AV} {ot : MOp → List AV → Option AV} {op : MOp} {g g' : Nat → Option AO} {nid : Nat} {vs : List AV} (h1 : kindOf op ≠ 1) (h3 : kindOf op ≠ 3) : small gm ot op g nid vs = small gm ot op g' nid vs := by
  cases op <;> first | rfl | exact absurd rfl h1 | exact absurd rfl h3
theorem small_reads {gm : Nat → Nat → Option AV} {ot : MOp → List AV → Option AV} {op : MOp} {g g' : Nat → Option AO} {nid nid' : Nat} {vs : List AV} (h1 : kindOf op = 1) (hg : ∀ id ∈ avsIds vs, g id = g' id) : small gm ot op g nid vs = small gm ot op g' nid' vs := by
  have h1id : ∀ {v : AV} {id : Nat} {vs : List AV}, id ∈ avIds v → id ∈ avsIds (v :: vs) := fun h => by simp only [avsIds, List.mem_append]; exact .inl h
  cases op <;> first | cases h1 | skip
  case b2s =>
    simp only [small]
    split <;> try rfl
    rename_i id off len es cap
    rw [hg id (h1id (by simp [avIds]))]
  case load n =>
    simp only [small]
    congr 1
    unfold sLoad
    split <;> try rfl
    rename_i id off
    rw [hg id (h1id (by simp [avIds]))]
  case look kk ok z =>
    simp only [small]
    congr 1
    unfold sLook
    split <;> try rfl
    rename_i id k
    rw [hg id (h1id (by simp [avIds]))]
  case len k =>
    simp only [small]
    have : sLen k g vs = sLen k g' vs := by
      unfold sLen
      split <;> try rfl
      rename_i id
      rw [hg id (h1id (by simp [avIds]))]
    rw [this]
theorem small_reads_ws {gm : Nat → Nat → Option AV} {ot : MOp → List AV → Option AV} {op : MOp} {g : Nat → Option AO} {nid : Nat} {vs : List AV} (h1 : kindOf op = 1) : ∀ x ∈ small gm ot op g nid vs, x.2 = [] := by
  have ho : ∀ (v : Option AV), ∀ x ∈ ones v, x.2 = [] := fun v x hx => by
    cases v with
    | none => simp [ones] at hx
    | some v => simp [ones] at hx; rw [hx]
  have h1' : ∀ (v : AV), ∀ x ∈ one v, x.2 = [] := fun v x hx => by simp [one] at hx; rw [hx]
  cases op <;> first | cases h1 | skip
  case b2s =>
    intro x hx
    simp only [small] at hx
    repeat' split at hx
    all_goals first | exact ho _ _ hx | exact h1' _ _ hx | simp at hx
  case load n => exact ho _
  case look kk ok z => exact ho _
  case len k =>
    intro x hx
    simp only [small] at hx
    split at hx
    · exact h1' _ _ hx
    · exact ho _ _ hx
/-! ### Alike is the same -/
theorem beqB {a b : Bool} (h : (if a then b else !b) = true) : a = b := by cases a <;> cases b <;> first | rfl | cases h
mutual
theorem AV.same_eq : ∀ {a b : AV}, AV.same a b = true → a = b
  | .bool a, b, h => by
    cases b <;> simp only [AV.same, Bool.false_eq_true] at h
    rw [beqB h]
  | .int k n, b, h => by
    cases b <;> simp only [AV.same, Bool.false_eq_true, Bool.and_eq_true, decide_eq_true_eq] at h
    rw [kbeq_eq h.1, h.2]
  | .str s, b, h => by
    cases b <;> simp only [AV.same, Bool.false_eq_true] at h
    rw [lbeq_eq.1 h]
  | .nilp, b, h => by cases b <;> simp only [AV.same, Bool.false_eq_true] at h; rfl
  | .ptr i o, b, h => by
    cases b <;> simp only [AV.same, Bool.false_eq_true, Bool.and_eq_true] at h
    rw [Nat.eq_of_beq_eq_true h.1, Nat.eq_of_beq_eq_true h.2]
  | .gptr i o, b, h => by
    cases b <;> simp only [AV.same, Bool.false_eq_true, Bool.and_eq_true] at h
    rw [Nat.eq_of_beq_eq_true h.1, Nat.eq_of_beq_eq_true h.2]
  | .nils, b, h => by cases b <;> simp only [AV.same, Bool.false_eq_true] at h; rfl
  | .slice i o l e c, b, h => by
    cases b <;> simp only [AV.same, Bool.false_eq_true, Bool.and_eq_true] at h
    rename_i i' o' l' e' c'
    obtain ⟨⟨⟨⟨h1, h2⟩, h3⟩, h4⟩, h5⟩ := h
    rw [Nat.eq_of_beq_eq_true h1, Nat.eq_of_beq_eq_true h2, Nat.eq_of_beq_eq_true h3, Nat.eq_of_beq_eq_true h4]
    cases c <;> cases c' <;> first | rfl | (simp at h5; done) | (rw [Nat.eq_of_beq_eq_true h5])
  | .nilm, b, h => by cases b <;> simp only [AV.same, Bool.false_eq_true] at h; rfl
  | .map i, b, h => by
    cases b <;> simp only [AV.same, Bool.false_eq_true] at h
    rw [Nat.eq_of_beq_eq_true h]
  | .func f a c, b, h => by
    cases b <;> simp only [AV.same, Bool.false_eq_true, Bool.and_eq_true] at h
    rw [Nat.eq_of_beq_eq_true h.1.1, AV.sames_eq h.1.2, AV.sames_eq h.2]
  | .nilf, b, h => by cases b <;> simp only [AV.same, Bool.false_eq_true] at h; rfl
  | .iface t v, b, h => by
    cases b <;> simp only [AV.same, Bool.false_eq_true, Bool.and_eq_true] at h
    rw [Nat.eq_of_beq_eq_true h.1, AV.same_eq h.2]
  | .nili, b, h => by cases b <;> simp only [AV.same, Bool.false_eq_true] at h; rfl
  | .agg a, b, h => by
    cases b <;> simp only [AV.same, Bool.false_eq_true] at h
    rw [AV.sames_eq h]
  | .tup a, b, h => by
    cases b <;> simp only [AV.same, Bool.false_eq_true] at h
    rw [AV.sames_eq h]
  | .opq i, b, h => by
    cases b <;> simp only [AV.same, Bool.false_eq_true] at h
    rw [Nat.eq_of_beq_eq_true h]
theorem AV.sames_eq : ∀ {a b : List AV}, AV.sames a b = true → a = b
  | [], b, h => by cases b <;> simp only [AV.sames, Bool.false_eq_true] at h; rfl
  | a :: as, b, h => by
    cases b <;> simp only [AV.sames, Bool.false_eq_true, Bool.and_eq_true] at h
    rw [AV.same_eq h.1, AV.sames_eq h.2]
end
end Go.Hx
/- Regions that draw their order: the pieces. -/
namespace Go.Hx
open Go
variable {σ : Nat → Value} {B : Nat} {E E' : Emb} {w w' : World} {P : Program} {R : Type} {A : Ans R} {T : R → Prop} {cx : Cx} {call : Call R}

def Holds (σ : Nat → Value) (E : Emb) (a : Act) (t : Nat) (v : AV) : Prop := ∃ u, a.tmps[t]? = some u ∧ VRel σ E v u
theorem Holds.mono {a : Act} {t : Nat} {v : AV} (h : Holds σ E a t v) (he : Emb.le E E') : Holds σ E' a t v := let ⟨u, h1, h2⟩ := h; ⟨u, h1, h2.mono he⟩
theorem Holds.put_ne {a : Act} {t : Nat} {v : AV} {dst : Option Nat} {u : Value} (h : Holds σ E a t v) (hd : dst ≠ some t) : Holds σ E (a.put dst u) t v := by
  cases dst with
  | none => exact h
  | some d =>
    obtain ⟨u', h1, h2⟩ := h
    exact ⟨u', by simp only [Act.put]; rw [Array.getElem?_setIfInBounds_ne (fun e => hd (congrArg some e))]; exact h1, h2⟩
theorem Holds.put_eq {a : Act} {d : Nat} {v : AV} {u : Value} (hlt : d < a.tmps.size) (h : VRel σ E v u) : Holds σ E (a.put (some d) u) d v :=
  ⟨u, by simp only [Act.put]; rw [Array.getElem?_setIfInBounds_self_of_lt hlt], h⟩

/-! ### Whatever the frame is -/
theorem evs_univ (hT : Ok σ A T) {code : Nat} {env : Hx.T AV} : ∀ (xs : List Operand) (ms : List MOpd), cOpds xs = some ms → ∀ (k : List AV → R), T (evs (A.fail code) env ms k) →
    ∃ vs, T (k vs) ∧ ∀ (E : Emb) (a : Act), (∀ t, .tmp t ∈ xs → ∀ v, env.get t = some v → Holds σ E a t v) → VRels σ E vs (xs.map a.eval)
  | [], ms, hc, k, hk => by cases hc; exact ⟨[], hk, fun _ _ _ => .nil⟩
  | x :: xs, ms, hc, k, hk => by
    simp only [cOpds] at hc
    split at hc
    · rename_i m ms' hm hms
      cases hc
      have fin : ∀ v, (∀ (E : Emb) (a : Act), (∀ t, .tmp t ∈ x :: xs → ∀ v, env.get t = some v → Holds σ E a t v) → VRel σ E v (a.eval x)) → T (evs (A.fail code) env ms' fun vs => k (v :: vs)) →
          ∃ vs, T (k vs) ∧ ∀ (E : Emb) (a : Act), (∀ t, .tmp t ∈ x :: xs → ∀ v, env.get t = some v → Holds σ E a t v) → VRels σ E vs ((x :: xs).map a.eval) := fun v h1 h2 => by
        obtain ⟨vs, h3, h4⟩ := evs_univ hT xs ms' hms _ h2
        exact ⟨v :: vs, h3, fun E a ha => .cons _ _ _ _ (h1 E a ha) (h4 E a fun t ht => ha t (List.mem_cons_of_mem _ ht))⟩
      cases x with
      | tmp t =>
        cases hm
        have e : evs (A.fail code) env (.t t :: ms') k = Option.rec (motive := fun _ => R) (A.fail code) (fun v => evs (A.fail code) env ms' fun vs => k (v :: vs)) (env.get t) := rfl
        rw [e] at hk
        cases hg : env.get t with
        | none => rw [hg] at hk; exact (hT.fail _ hk).elim
        | some v =>
          rw [hg] at hk
          refine fin v (fun E a ha => ?_) hk
          obtain ⟨u, h1, h2⟩ := ha t List.mem_cons_self v hg
          have : a.eval (.tmp t) = u := by simp [Act.eval, Array.getD_eq_getD_getElem?, h1]
          rw [this]; exact h2
      | const c =>
        simp only [cOpd, Option.map_eq_some_iff] at hm
        obtain ⟨z, hz, rfl⟩ := hm
        exact fin z (fun E a _ => cval_rel hz) hk
      | global i => cases hm; exact fin _ (fun E a _ => .gptr i 0) hk
      | func f => cases hm; exact fin _ (fun E a _ => .func f [] [] #[] #[] .nil .nil) hk
    · cases hc
theorem lone_sound (hT : Ok σ A T) {code nid : Nat} {objs : Hx.T AO} {k : AV → Hx.T AO → R} {l : List (AV × Ws)} (h : T (lone A code nid objs k l)) :
    ∃ r ws objs', l = [(r, ws)] ∧ T (k r objs') ∧ ((ws = [] ∧ objs' = objs) ∨ ∃ o, ws = [(nid, some o)] ∧ objs' = Hx.T.set (nid + 1) objs nid (some o)) := by
  unfold lone at h
  split at h
  · rename_i r
    exact ⟨r, [], objs, rfl, h, .inl ⟨rfl, rfl⟩⟩
  · rename_i r i o
    split at h
    · rename_i e
      have e := Nat.eq_of_beq_eq_true e
      subst e
      exact ⟨r, [(i, some o)], _, rfl, h, .inr ⟨o, rfl, rfl⟩⟩
    · exact (hT.fail _ h).elim
  · exact (hT.fail _ h).elim
theorem doQuiet_univ (hT : Ok σ A T) {op : MOp} {objs : Hx.T AO} {nid : Nat} {k : List AV → AV → Hx.T AO → R} : ∀ (n : Nat) (vs : List AV), T (doQuietN A cx op objs nid k n vs) →
    ∃ vs' r ws objs', (∀ (E : Emb) us, VRels σ E vs us → VRels σ E vs' us) ∧ small cx.gm cx.ot op objs.get nid vs' = [(r, ws)] ∧ T (k vs' r objs') ∧ ((ws = [] ∧ objs' = objs) ∨ ∃ o, ws = [(nid, some o)] ∧ objs' = Hx.T.set (nid + 1) objs nid (some o))
  | 0, _, h => (hT.fail _ h).elim
  | n + 1, vs, h => by
    have h2 : T (match smallF cx.gm cx.ot op objs.get nid vs with
      | [] => match opqs1 vs with
        | some i => A.split i fun v => doQuietN A cx op objs nid k n (subs1 i v vs)
        | none => A.fail op.ctorIdx
      | x :: xs => lone A 122 nid objs (k vs) (x :: xs)) := h
    rw [smallF_eq] at h2
    split at h2
    · split at h2
      · rename_i i _
        obtain ⟨v, hr, hk⟩ := hT.split _ _ h2
        obtain ⟨vs', r, ws, objs', h1, h3⟩ := doQuiet_univ hT n _ hk
        exact ⟨vs', r, ws, objs', fun E us hv => h1 E us (subs1_rel hr hv), h3⟩
      · exact (hT.fail _ h2).elim
    · rename_i x xs e
      obtain ⟨r, ws, objs', h1, h3⟩ := lone_sound hT h2
      exact ⟨vs, r, ws, objs', fun _ _ h => h, by rw [e]; exact h1, h3⟩
/-- What is read of one heap is read of another where its rows are as they were. -/
theorem still_sound {recs : Hx.T Rec} {get : Nat → Option AO} : ∀ {is : List Nat}, still cx recs get is = true → ∀ i ∈ is, ∀ x, recs.get i = some x → small cx.gm cx.ot x.op get 0 x.vs = [(x.r, [])]
  | [], _, i, hi, _, _ => by simp at hi
  | j :: is, h, i, hi, x, hx => by
    unfold still at h
    have rest : still cx recs get is = true := by
      split at h
      · exact h
      · split at h
        · split at h
          · exact h
          · cases h
        · cases h
    rcases List.mem_cons.1 hi with rfl | hi
    · rw [hx] at h
      dsimp only at h
      split at h
      · rename_i r hs
        split at h
        · rename_i hsame
          rw [smallF_eq] at hs
          rw [hs, AV.same_eq hsame]
        · cases h
      · cases h
    · exact still_sound rest i hi x hx

/-! ### Worlds, one step on -/
theorem Tr.post {E0 : Emb} {g0 g gp g2 : Nat → Option AO} {w0 : World} {base next nid : Nat} {r : AV} {ws : Ws} {u : Value} (tr : Tr B E0 g0 base w0 E g next w) (p : SPost σ B E gp w nid r ws u w' E') (hgp : ∀ id o, gp id = some o → g id = some o) (hn : base ≤ nid)
    (h2 : ∀ id o, g2 id = some o → (∃ o', upd gp ws id = some o') ∨ ∃ o', g id = some o') : Tr B E0 g0 base w0 E' g2 next w' where
  keep id h := by rw [p.keep id (by omega), tr.keep id h]
  le := tr.le
  size := Nat.le_trans tr.size p.size
  frame k hk hf := by
    rw [p.frame k (Nat.lt_of_lt_of_le hk tr.size) (fun id o x hid hx => ?_), tr.frame k hk hf]
    rcases Nat.lt_or_ge id base with hl | hl
    · rcases tr.dom id o (hgp id o hid) with h | ⟨o', h⟩
      · omega
      · exact hf id o' x h (by rw [← tr.keep id hl]; exact hx)
    · rcases (tr.new id x hl hx).2 with h | ⟨i, o', y, h1, h2, h3⟩
      · omega
      · rw [← h3]; exact hf i o' y h1 h2
  os := p.os.trans tr.os
  tape := p.tape.trans tr.tape
  out := p.out.trans tr.out
  new id x h hx := by
    by_cases e : id = nid
    · subst e
      obtain ⟨hB, h'⟩ := p.new x hx
      refine ⟨hB, ?_⟩
      rcases h' with h' | ⟨i, o, y, h1, h2, h3⟩
      · exact .inl (Nat.le_trans tr.size h')
      · rcases Nat.lt_or_ge i base with hi | hi
        · rcases tr.dom i o (hgp i o h1) with h' | ⟨o', h'⟩
          · omega
          · exact .inr ⟨i, o', y, h', by rw [← tr.keep i hi]; exact h2, h3⟩
        · rcases (tr.new i y hi h2).2 with h' | ⟨i', o', y', e1, e2, e3⟩
          · exact .inl (by rw [← h3]; exact h')
          · exact .inr ⟨i', o', y', e1, e2, e3.trans h3⟩
    · rw [p.keep id e] at hx; exact tr.new id x h hx
  dom id o h := by
    rcases h2 id o h with ⟨o', h'⟩ | ⟨o', h'⟩
    · rcases p.dom id o' h' with rfl | ⟨o'', h''⟩
      · exact .inl hn
      · exact tr.dom id o'' (hgp _ _ h'')
    · exact tr.dom id o' h'
theorem Tr.thruCall {E0 : Emb} {g0 g gp g1 g2 : Nat → Option AO} {w0 : World} {base next next' : Nat} (tr : Tr B E0 g0 base w0 E g next w) (c : Tr B E gp next w E' g1 next' w') (hgp : ∀ id o, gp id = some o → g id = some o)
    (h2 : ∀ id o, g2 id = some o → (∃ o', g1 id = some o') ∨ ∃ o', g id = some o') : Tr B E0 g0 base w0 E' g2 next' w' where
  keep id h := by rw [c.keep id (Nat.lt_of_lt_of_le h tr.le), tr.keep id h]
  le := Nat.le_trans tr.le c.le
  size := Nat.le_trans tr.size c.size
  frame k hk hf := by
    rw [c.frame k (Nat.lt_of_lt_of_le hk tr.size) (fun id o x hid hx => ?_), tr.frame k hk hf]
    rcases Nat.lt_or_ge id base with hl | hl
    · rcases tr.dom id o (hgp id o hid) with h | ⟨o', h⟩
      · omega
      · exact hf id o' x h (by rw [← tr.keep id hl]; exact hx)
    · rcases (tr.new id x hl hx).2 with h | ⟨i, o', y, h1, h2, h3⟩
      · omega
      · rw [← h3]; exact hf i o' y h1 h2
  os := c.os.trans tr.os
  tape := c.tape.trans tr.tape
  out := c.out.trans tr.out
  new id x h hx := by
    rcases Nat.lt_or_ge id next with hl | hl
    · rw [c.keep id hl] at hx; exact tr.new id x h hx
    · obtain ⟨hB, h'⟩ := c.new id x hl hx
      refine ⟨hB, ?_⟩
      rcases h' with h' | ⟨i, o, y, h1, h2, h3⟩
      · exact .inl (Nat.le_trans tr.size h')
      · rcases Nat.lt_or_ge i base with hi | hi
        · rcases tr.dom i o (hgp i o h1) with h' | ⟨o', h'⟩
          · omega
          · exact .inr ⟨i, o', y, h', by rw [← tr.keep i hi]; exact h2, h3⟩
        · rcases (tr.new i y hi h2).2 with h' | ⟨i', o', y', e1, e2, e3⟩
          · exact .inl (by rw [← h3]; exact h')
          · exact .inr ⟨i', o', y', e1, e2, e3.trans h3⟩
  dom id o h := by
    rcases h2 id o h with ⟨o', h'⟩ | ⟨o', h'⟩
    · rcases c.dom id o' h' with h'' | ⟨o'', h''⟩
      · exact .inl (Nat.le_trans tr.le h'')
      · exact tr.dom id o'' (hgp _ _ h'')
    · exact tr.dom id o' h'
/-- Objects that were hidden come back. -/
theorem HObj.join {g gp g1 : Nat → Option AO} (H : HObj σ B E g w) (hp : ∀ id o, gp id = some o → g id = some o) (H1 : HObj σ B E' g1 w') (he : Emb.le E E') (S : Nat → Prop) [DecidablePred S] (hS : ∀ id, S id → gp id = none) (hsize : w.heap.size ≤ w'.heap.size)
    (hframe : ∀ b, b < w.heap.size → (∀ id o x, gp id = some o → E id = some x → x.1 ≠ b) → w'.heap[b]? = w.heap[b]?)
    (hnew : ∀ j o x, g1 j = some o → E' j = some x → (∃ o', gp j = some o' ∧ E j = some x) ∨ w.heap.size ≤ x.1 ∨ ∃ i o y, gp i = some o ∧ E i = some y ∧ y.1 = x.1) :
    HObj σ B E' (fun id => if S id then g id else g1 id) w' := by
  have blk : ∀ id o x, S id → g id = some o → E id = some x → ∀ i o' y, gp i = some o' → E i = some y → y.1 ≠ x.1 := fun id o x hs hid hx i o' y hi hy hxy => by
    have := H.inj i id o' o y x (hp i o' hi) hid hy hx hxy
    subst this
    rw [hS i hs] at hi; cases hi
  have apart : ∀ i j oi oj x y, S i → g i = some oi → E i = some x → g1 j = some oj → E' j = some y → x.1 ≠ y.1 := fun i j oi oj x y hs hi hx hj hy hxy => by
    obtain ⟨x', a, b, c, d⟩ := H.obj i oi hi
    have e : x' = x := Option.some.inj (a.symm.trans hx)
    subst e
    rcases hnew j oj y hj hy with ⟨o', h1, h2⟩ | h | ⟨i', o', y', h1, h2, h3⟩
    · exact blk i oi x' hs hi hx j o' y h1 h2 hxy.symm
    · omega
    · exact blk i oi x' hs hi hx i' o' y' h1 h2 (h3.trans hxy.symm)
  refine ⟨fun id o hid => ?_, fun i j oi oj x y hi hj hx hy hxy => ?_⟩
  · by_cases hs : S id
    · rw [if_pos hs] at hid
      obtain ⟨x, a, b, c, d⟩ := H.obj id o hid
      refine ⟨x, he _ _ a, b, Nat.lt_of_lt_of_le c hsize, ?_⟩
      rw [hframe x.1 c (fun i o' y hi hy => blk id o x hs hid a i o' y hi hy)]
      exact d.mono he
    · rw [if_neg hs] at hid
      exact H1.obj id o hid
  · have em : ∀ id o x, S id → g id = some o → E' id = some x → E id = some x := fun id o x _ hid hx => by
      obtain ⟨x', a, _⟩ := H.obj id o hid
      have := he _ _ a
      rw [hx] at this
      cases this
      exact a
    by_cases hsi : S i <;> by_cases hsj : S j
    · rw [if_pos hsi] at hi; rw [if_pos hsj] at hj
      exact H.inj i j oi oj x y hi hj (em i oi x hsi hi hx) (em j oj y hsj hj hy) hxy
    · rw [if_pos hsi] at hi; rw [if_neg hsj] at hj
      exact (apart i j oi oj x y hsi hi (em i oi x hsi hi hx) hj hy hxy).elim
    · rw [if_neg hsi] at hi; rw [if_pos hsj] at hj
      exact (apart j i oj oi y x hsj hj (em j oj y hsj hj hy) hi hx hxy.symm).elim
    · rw [if_neg hsi] at hi; rw [if_neg hsj] at hj
      exact H1.inj i j oi oj x y hi hj hx hy hxy

theorem pairwise_tri {α : Type} {Rl : α → α → Prop} : ∀ {l : List α}, l.Pairwise Rl → ∀ {x y : α}, x ∈ l → y ∈ l → x = y ∨ Rl x y ∨ Rl y x
  | [], _, _, _, h, _ => by simp at h
  | z :: l, h, x, y, hx, hy => by
    cases h with
    | cons h1 h2 =>
      rcases List.mem_cons.1 hx with e1 | hx' <;> rcases List.mem_cons.1 hy with e2 | hy'
      · exact .inl (e1.trans e2.symm)
      · subst e1; exact .inr (.inl (h1 y hy'))
      · subst e2; exact .inr (.inr (h1 x hx'))
      · exact pairwise_tri h2 hx' hy'
/-- How many aren't listed. -/
def unl (L : Array Bool) : Nat := (List.range L.size).countP fun j => !L.getD j true
theorem countP_set : ∀ (l : List Nat) (p q : Nat → Bool) (i : Nat), l.Nodup → i ∈ l → p i = true → q i = false → (∀ j, j ≠ i → q j = p j) → l.countP p = l.countP q + 1
  | [], _, _, _, _, h, _, _, _ => by simp at h
  | x :: l, p, q, i, hn, hi, hp, hq, hpq => by
    have hn := List.nodup_cons.1 hn
    have same : ∀ l : List Nat, i ∉ l → l.countP p = l.countP q := fun l hl => List.countP_congr fun j hj => by rw [hpq j (fun e => hl (e ▸ hj))]
    by_cases e : x = i
    · subst e
      rw [List.countP_cons_of_pos hp, List.countP_cons_of_neg (by simp [hq]), same l hn.1]
    · have hi' : i ∈ l := by
        rcases List.mem_cons.1 hi with h | h
        · exact absurd h.symm e
        · exact h
      have ih := countP_set l p q i hn.2 hi' hp hq hpq
      by_cases hx : p x = true
      · rw [List.countP_cons_of_pos hx, List.countP_cons_of_pos (by rw [hpq x e]; exact hx), ih]
      · rw [List.countP_cons_of_neg hx, List.countP_cons_of_neg (by rw [hpq x e]; exact hx), ih]
theorem unl_set {L : Array Bool} {i : Nat} (hlt : i < L.size) (h : L.getD i true = false) : unl L = unl (L.setIfInBounds i true) + 1 := by
  unfold unl
  rw [Array.size_setIfInBounds]
  refine countP_set _ _ _ i List.nodup_range (List.mem_range.2 hlt) (by simp only [h]; rfl) ?_ fun j hj => ?_
  · simp [Array.getD_eq_getD_getElem?, Array.getElem?_setIfInBounds_self_of_lt hlt]
  · simp only [Array.getD_eq_getD_getElem?]
    rw [Array.getElem?_setIfInBounds_ne (fun e => hj e.symm)]
theorem unl_zero {L : Array Bool} (h : unl L = 0) : ∀ j, L.getD j true = true := fun j => by
  rcases Nat.lt_or_ge j L.size with hl | hl
  · have := List.countP_eq_zero.1 h j (List.mem_range.2 hl)
    simpa using this
  · simp [Array.getD_eq_getD_getElem?, Array.getElem?_eq_none hl]
end Go.Hx
