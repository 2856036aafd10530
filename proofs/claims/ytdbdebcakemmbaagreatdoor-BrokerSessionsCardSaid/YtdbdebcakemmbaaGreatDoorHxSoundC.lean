/- Regions whose order is that of the text, whole. -/
import Derived.Test.YtdbdebcakemmbaaGreatDoorHxSoundA
import Derived.Test.YtdbdebcakemmbaaGreatDoorHxExec
namespace Go.Hx
open Go
variable {σ : Nat → Value} {B : Nat} {E E' E'' : Emb} {w w' w'' : World} {nid : Nat} {P : Program}

theorem cBin_call {op : BinOp} {t : TypeId} : cBin P op t ≠ .call := by
  unfold cBin
  repeat' split
  all_goals (intro h; cases h)
theorem cBuiltin_call {b : Builtin} {ts : Array TypeId} : cBuiltin P b ts ≠ .call := by
  unfold cBuiltin
  repeat' split
  all_goals (intro h; cases h)
theorem cOp_call {op : Op} {xs : List Operand} (h : cOp P op = (.call, xs)) : ∃ c f, op = .call c ∧ c.callee = .value f ∧ xs = f :: c.args.toList := by
  have bin : ∀ {op : BinOp} {t : TypeId} {l : List Operand}, (cBin P op t, l) = (MOp.call, xs) → False := fun h => cBin_call (Prod.mk.inj h).1
  have blt : ∀ {b : Builtin} {ts : Array TypeId} {l : List Operand}, (cBuiltin P b ts, l) = (MOp.call, xs) → False := fun h => cBuiltin_call (Prod.mk.inj h).1
  cases op <;> simp only [cOp] at h <;> (repeat' split at h) <;> first
    | contradiction
    | exact (bin h).elim
    | exact (blt h).elim
    | (rename_i c _ f hf; cases h; exact ⟨c, f, rfl, hf, rfl⟩)
    | cases h
theorem isCall_eq {m : MOp} (h : isCall m = true) : m = .call := by cases m <;> first | rfl | cases h
theorem cBin_mov {op : BinOp} {t : TypeId} : cBin P op t ≠ .mov := by
  unfold cBin
  repeat' split
  all_goals (intro h; cases h)
theorem cBuiltin_mov {b : Builtin} {ts : Array TypeId} : cBuiltin P b ts ≠ .mov := by
  unfold cBuiltin
  repeat' split
  all_goals (intro h; cases h)
theorem cOp_mov {op : Op} {xs : List Operand} (h : cOp P op = (.mov, xs)) : ∃ x, xs = [x] ∧ (op = .move x ∨ op = .assign x) := by
  have bin : ∀ {op : BinOp} {t : TypeId} {l : List Operand}, (cBin P op t, l) = (MOp.mov, xs) → False := fun h => cBin_mov (Prod.mk.inj h).1
  have blt : ∀ {b : Builtin} {ts : Array TypeId} {l : List Operand}, (cBuiltin P b ts, l) = (MOp.mov, xs) → False := fun h => cBuiltin_mov (Prod.mk.inj h).1
  cases op <;> simp only [cOp] at h <;> (repeat' split at h) <;> first
    | contradiction
    | exact (bin h).elim
    | exact (blt h).elim
    | (rename_i x; cases h; exact ⟨x, rfl, .inl rfl⟩)
    | (rename_i x; cases h; exact ⟨x, rfl, .inr rfl⟩)
    | cases h

section
variable {R : Type} {A : Ans R} {T : R → Prop} {cx : Cx} {call : Call R}
/-- One operation of a region. -/
theorem oper_sound (hT : Ok σ A T) (hσ : OneOpq σ) (hb : GmB B cx.gm) (ho : OtOk P σ cx.ot) (hcall : CallOk P σ B cx.gm T call) {o : Oper} {h : Heap} {a : Act} {vs : List AV}
    (H : HR σ B cx.gm E h w) (hv : VRels σ E vs ((cOp P o.op).2.map a.eval)) {kc : AV → Heap → R} {ks : AV → Ws → Hx.T AO → R}
    (hk : T (Bool.rec (motive := fun _ => R) (doSmall A cx (cOp P o.op).1 vs h.objs h.next ks) (doCall A call vs h kc) (isCall (cOp P o.op).1))) {next : Act → World → Prop} {Q : Exit → Act → World → Prop}
    (hc : ∀ r u E' h' w', VRel σ E' r u → HR σ B cx.gm E' h' w' → Tr B E h.objs.get h.next w E' h'.objs.get h'.next w' → T (kc r h') → next (a.put o.dst u) w')
    (hs : ∀ r ws u E' objs n' w', VRel σ E' r u → (ws = [] → n' = h.next) → (ws ≠ [] → n' = h.next + 1) → HR σ B cx.gm E' ⟨n', objs⟩ w' → Tr B E h.objs.get h.next w E' objs.get n' w' → T (ks r ws objs) → next (a.put o.dst u) w') : o.wp P a w next Q := by
  by_cases hcl : isCall (cOp P o.op).1 = true
  · rw [hcl] at hk
    obtain ⟨c, f, h1, h2, h3⟩ := cOp_call (P := P) (op := o.op) (xs := (cOp P o.op).2) (Prod.ext (isCall_eq hcl) rfl)
    rw [h3] at hv
    exact doCall_sound hT hcall H h1 h2 hv hk hc
  · have hcl : isCall (cOp P o.op).1 = false := by simpa using hcl
    rw [hcl] at hk
    obtain ⟨vs, hv, hne, hall⟩ := doSmall_sound hT hv hk
    have hn := H.fresh h.next (Nat.le_refl _)
    obtain ⟨r, ws, u, w', E', nx, hm, hrun, hnx, hp⟩ := small_sound hσ H.gm ho H.obj hn H.size a.eval o hv hne
    have hr := hall _ hm
    obtain ⟨objs, h1, h2⟩ := applyWs_sound ws h.objs (fun objs => ks r ws objs)
    rw [h1] at hr
    refine wp_of_run hrun hnx ?_
    by_cases hw : ws = []
    · have hE := hp.same hw
      obtain ⟨H', tr⟩ := hp.tr H hb h2 (n := h.next) (Nat.le_refl _) ⟨Nat.le_refl _, .inr (by rw [hE]; exact hn)⟩
      exact hs r ws u E' objs h.next w' hp.val (fun _ => rfl) (fun h => absurd hw h) H' tr hr
    · obtain ⟨H', tr⟩ := hp.tr H hb h2 (n := h.next + 1) (Nat.le_succ _) ⟨Nat.le_refl _, .inl (Nat.lt_succ_self _)⟩
      exact hs r ws u E' objs (h.next + 1) w' hp.val (fun h => absurd h hw) (fun _ => rfl) H' tr hr
theorem cOper_spec (ops : Array Oper) (o : Oper) : (∃ as gd, cOpds (cOp P o.op).2 = some as ∧ (match o.guard with
    | none => some none
    | some (g, b) => match (ops[g]?).bind (·.dst) with
      | some t => some (some (t, b))
      | none => none) = some gd ∧ cOper P ops o = { dst := o.dst, op := (cOp P o.op).1, args := as, guard := gd }) ∨ cOper P ops o = badOper := by
  unfold cOper
  dsimp only
  cases hc : cOpds (cOp P o.op).2 with
  | none => exact .inr rfl
  | some as =>
    cases hg : o.guard with
    | none => exact .inl ⟨as, none, rfl, rfl, rfl⟩
    | some p =>
      obtain ⟨j, b⟩ := p
      dsimp only
      cases hd : (ops[j]?).bind (fun x => x.dst) with
      | none => exact .inr rfl
      | some t => exact .inl ⟨as, some (t, b), rfl, rfl, rfl⟩
theorem runOps_cons (o : MOper) (ms : List MOper) (env : Hx.T AV) (h : Heap) (k : Hx.T AV → Heap → R) : runOps A cx call (o :: ms) env h k =
    guarded A 101
        (evs (A.fail 102) env o.args fun vs =>
          Bool.rec (motive := fun _ => R) (doSmall A cx o.op vs h.objs h.next fun r ws objs =>
            setDst env o.dst r fun env => List.rec (motive := fun _ => R) (runOps A cx call ms env ⟨h.next, objs⟩ k) (fun _ _ _ => force (Nat.add h.next 1) fun n => runOps A cx call ms env ⟨n, objs⟩ k) ws)
            (doCall A call vs h fun r h => setDst env o.dst r fun env => runOps A cx call ms env h k) (isCall o.op))
        (setDst env o.dst (.tup []) fun env => runOps A cx call ms env h k)
        o.guard env := rfl
/-- A region with an operation that the executor hasn't: it fails. -/
theorem runOps_bad (hT : Ok σ A T) {ms : List MOper} {env : Hx.T AV} {h : Heap} {k : Hx.T AV → Heap → R} : ¬ T (runOps A cx call (badOper :: ms) env h k) := fun hk => by
  rw [runOps_cons] at hk
  exact hT.fail _ hk
theorem copyOf_spec {mask : Nat} {o : MOper} {p : Nat × MOpd} (h : copyOf mask o = some p) : o.op = .mov ∧ o.dst = some p.1 ∧ o.args = [p.2] ∧ o.guard = none ∧ mask.testBit p.1 = true ∧ isT p.1 p.2 = false := by
  unfold copyOf at h
  split at h
  · rename_i d x h1 h2 h3 h4
    split at h
    · rename_i hc
      cases h
      simp only [Bool.and_eq_true, Bool.not_eq_true'] at hc
      exact ⟨h1, h2, h3, h4, hc.1, hc.2⟩
    · cases h
  · cases h
theorem dstFree_spec {mask : Nat} {o : MOper} (h : dstFree mask o = true) : ∀ d, o.dst = some d → mask.testBit d = false := fun d hd => by
  unfold dstFree at h
  rw [hd] at h
  simpa using h
theorem runOps_sound (hT : Ok σ A T) (hσ : OneOpq σ) (hb : GmB B cx.gm) (ho : OtOk P σ cx.ot) (hcall : CallOk P σ B cx.gm T call) {n : Fr} {ops : Array Oper} {Q : Exit → Act → World → Prop} {k : Hx.T AV → Heap → R} :
    ∀ (l : List Oper), (∀ o ∈ l, ∀ d, o.dst = some d → d < n.n) → ∀ (S : Sub) (env : Hx.T AV) (h : Heap) (E : Emb) (a : Act) (w : World), EnvR σ E n env a → SubR σ E S a → HR σ B cx.gm E h w → T (runOps A cx call (subOps n.mask S (l.map (cOper P ops))) env h k) →
    (∀ env' h' E' a' w', EnvR σ E' n env' a' → HR σ B cx.gm E' h' w' → Tr B E h.objs.get h.next w E' h'.objs.get h'.next w' → T (k env' h') → Q .normal a' w') → wpList P ops Q l a w
  | [], _, S, env, h, E, a, w, he, hS, H, hk, hq => hq env h E a w he H (Tr.refl _ _ _ _ H.fresh) hk
  | o :: l, hd, S, env, h, E, a, w, he, hS, H, hk, hq => by
    have hdo := hd o List.mem_cons_self
    have hdl : ∀ o ∈ l, ∀ d, o.dst = some d → d < n.n := fun o' ho' => hd o' (List.mem_cons_of_mem _ ho')
    rw [List.map_cons] at hk
    unfold subOps at hk
    dsimp only at hk
    rcases cOper_spec (P := P) ops o with ⟨as, gd, has, hgd, e⟩ | e
    · rw [e] at hk
      dsimp only at hk
      split at hk
      · -- a copy
        rename_i p hp
        obtain ⟨h1, h2, h3, h4, h5, h6⟩ := copyOf_spec hp
        dsimp only at h1 h2 h3 h4
        obtain ⟨x, hx, hop⟩ := cOp_mov (P := P) (op := o.op) (xs := (cOp P o.op).2) (Prod.ext h1 rfl)
        rw [hx] at has
        have has' : ∃ m, cOpd x = some m ∧ as = [m] := by
          simp only [cOpds] at has
          cases hm : cOpd x with
          | none => rw [hm] at has; cases has
          | some m => rw [hm] at has; cases has; exact ⟨m, rfl, rfl⟩
        obtain ⟨m, hm, rfl⟩ := has'
        have h3 : subOpd S m = p.2 := by simpa using h3
        have hgn : o.guard = none := by
          rw [h4] at hgd
          cases hg : o.guard with
          | none => rfl
          | some q =>
            rw [hg] at hgd
            dsimp only at hgd
            split at hgd <;> cases hgd
        have hsame := subOpd_same hS hm
        rw [h3] at hsame
        have hrun : (execOp a.eval o).run P w = .ok (.value (a.eval x)) w := by
          rcases hop with hop | hop <;> simp [execOp, hop]
        rw [wpList]
        have hw : Region.wanted o (yielded ops a.tmps) = true := by unfold Region.wanted; rw [hgn]
        rw [if_pos hw]
        refine .inl (wp_of_run hrun (.inl rfl) ?_)
        have hlt := hdo _ h2
        have hput : (a.put (some p.1) (a.eval x)).tmps.getD p.1 undef = a.eval x := by
          simp only [Act.put, Array.getD_eq_getD_getElem?]
          rw [Array.getElem?_setIfInBounds_self_of_lt (by rw [he.size]; exact hlt)]
          rfl
        rw [h2]
        refine runOps_sound hT hσ hb ho hcall l hdl _ env h E _ w (he.drop h5 _) (fun q hq' => ?_) H hk hq
        rcases List.mem_cons.1 hq' with rfl | hq'
        · rw [hput]
          cases hp2 : q.2 with
          | v z => rw [hp2] at hsame; exact hsame
          | t m' =>
            rw [hp2] at hsame h6
            have ne : m' ≠ q.1 := fun e => by rw [e] at h6; simp [isT] at h6
            show (a.put (some q.1) (a.eval x)).tmps.getD m' undef = _
            rw [getD_put_ne ne]
            exact hsame
        · exact hS.put (some p.1) _ q hq'
      · split at hk
        · rename_i hf
          have hfree : ∀ d, o.dst = some d → n.mask.testBit d = false := dstFree_spec hf
          have hdd : ∀ d, o.dst = some d → d < n.n ∧ n.mask.testBit d = false := fun d hd => ⟨hdo d hd, hfree d hd⟩
          -- on
          have on : ∀ r u E' h' w' , VRel σ E' r u → HR σ B cx.gm E' h' w' → Tr B E h.objs.get h.next w E' h'.objs.get h'.next w' → T (setDst env o.dst r fun env => runOps A cx call (subOps n.mask (subKill o.dst S) (l.map (cOper P ops))) env h' k) → wpList P ops Q l (a.put o.dst u) w' := fun r u E' h' w' hr H' tr hk => by
            rw [setDst_eq] at hk
            have hee := tr.emb H.fresh
            exact runOps_sound hT hσ hb ho hcall l hdl _ _ h' E' _ w' ((he.mono hee).put hdd hr) ((hS.mono hee).put o.dst u) H' hk fun env'' h'' E'' a'' w'' he'' H'' tr'' hk'' => hq env'' h'' E'' a'' w'' he'' H'' (tr.trans H.own tr'') hk''
          rw [runOps_cons] at hk
          dsimp only at hk
          rw [wpList]
          rcases guarded_sound hT he hgd hk with ⟨hw, hk⟩ | ⟨hw, hk⟩
          · rw [if_pos hw]
            obtain ⟨vs, hv, hk⟩ := evs_sub hT he hS _ _ has _ hk
            refine .inl (oper_sound hT hσ hb ho hcall H hv hk (fun r u E' h' w' h1 h2 h3 h4 => on r u E' h' w' h1 h2 h3 h4) fun r ws u E' objs n' w' h1 h2 h2' h3 h4 h5 => ?_)
            cases ws with
            | nil =>
              have := h2 rfl
              subst this
              exact on r u E' ⟨_, objs⟩ w' h1 h3 h4 h5
            | cons x xs =>
              have := h2' (by simp)
              subst this
              dsimp only at h5
              simp only [force_eq] at h5
              exact on r u E' ⟨_, objs⟩ w' h1 h3 h4 h5
          · rw [if_neg (by rw [hw]; simp)]
            exact on (.tup []) undef E h w (.tup [] #[] .nil) H (Tr.refl _ _ _ _ H.fresh) hk
        · exact (runOps_bad hT hk).elim
    · rw [e] at hk
      exact (runOps_bad hT hk).elim
end
end Go.Hx
/- Code. -/
namespace Go.Hx
open Go
variable {σ : Nat → Value} {B : Nat} {E E' E'' : Emb} {w w' w'' : World} {nid : Nat} {P : Program}

theorem dstsOk_region {n id : Nat} {ops : Array Oper} {d : Bool} (h : dstsOk n (.region id ops d) = true) : ∀ o ∈ ops.toList, ∀ d, o.dst = some d → d < n := fun o ho d hd => by
  have := List.all_eq_true.1 h o ho
  simp only [dstOk, hd] at this
  exact Nat.le_of_ble_eq_true this
theorem exists_least {p : Nat → Prop} (h : ∃ m, p m) : ∃ m, p m ∧ ∀ k, p k → m ≤ k := by
  obtain ⟨m, hm⟩ := h
  induction m using Nat.strongRecOn with
  | _ m ih =>
    by_cases hc : ∃ k, k < m ∧ p k
    · obtain ⟨k, hk, hp⟩ := hc
      exact ih k hk hp
    · refine ⟨m, hm, fun k hp => ?_⟩
      rcases Nat.lt_or_ge k m with h | h
      · exact absurd ⟨k, h, hp⟩ hc
      · exact h
open Classical in
noncomputable def least (p : Nat → Prop) : Nat := if h : ∃ m, p m then (exists_least h).choose else 0
theorem least_spec {p : Nat → Prop} (h : ∃ m, p m) : p (least p) := by
  unfold least; rw [dif_pos h]; exact (exists_least h).choose_spec.1
theorem least_le {p : Nat → Prop} {k : Nat} (h : p k) : least p ≤ k := by
  unfold least; rw [dif_pos ⟨k, h⟩]; exact (exists_least ⟨k, h⟩).choose_spec.2 k h
section
variable {R : Type} {A : Ans R} {T : R → Prop} {cx : Cx} {call : Call R}
/-- What a continuation is good for. -/
def Cont (σ : Nat → Value) (B : Nat) (gm : Nat → Nat → Option AV) (n : Fr) (T : R → Prop) (E : Emb) (h : Heap) (w : World) (k : Hx.T AV → Heap → R) (q : Act → World → Prop) : Prop :=
  ∀ env' h' E' a' w', EnvR σ E' n env' a' → HR σ B gm E' h' w' → Tr B E h.objs.get h.next w E' h'.objs.get h'.next w' → T (k env' h') → q a' w'
theorem Cont.on {gm : Nat → Nat → Option AV} {n : Fr} {h h' : Heap} {k : Hx.T AV → Heap → R} {q : Act → World → Prop} (H : HR σ B gm E h w) (tr : Tr B E h.objs.get h.next w E' h'.objs.get h'.next w') (c : Cont σ B gm n T E h w k q) : Cont σ B gm n T E' h' w' k q :=
  fun env'' h'' E'' a'' w'' he H' tr' hk => c env'' h'' E'' a'' w'' he H' (tr.trans H.own tr') hk
theorem Cont.now {gm : Nat → Nat → Option AV} {n : Fr} {h : Heap} {k : Hx.T AV → Heap → R} {q : Act → World → Prop} {env : Hx.T AV} {a : Act} (he : EnvR σ E n env a) (H : HR σ B gm E h w) (c : Cont σ B gm n T E h w k q) (hk : T (k env h)) : q a w :=
  c env h E a w he H (Tr.refl _ _ _ _ H.fresh) hk
/-- What is asked of the regions that draw their order. -/
def DrawOk (P : Program) (σ : Nat → Value) (B : Nat) (T : R → Prop) (A : Ans R) (cx : Cx) (call : Call R) : Prop :=
  ∀ (n : Fr) (id : Nat) (ops : Array Oper) (Q : Exit → Act → World → Prop) (env : Hx.T AV) (h : Heap) (E : Emb) (a : Act) (w : World) (k : Hx.T AV → Heap → R), (∀ o ∈ ops.toList, ∀ d, o.dst = some d → d < n.n) → EnvR σ E n env a → HR σ B cx.gm E h w →
    ∀ kx kr, T (exec A cx call (compile P n.mask (.region id ops true)) env h k kx kr) → Cont σ B cx.gm n T E h w k (Q .normal) → (Code.region id ops true).wp P Q a w
theorem exec_sound (hT : Ok σ A T) (hσ : OneOpq σ) (hb : GmB B cx.gm) (ho : OtOk P σ cx.ot) (hcall : CallOk P σ B cx.gm T call) (hdraw : DrawOk P σ B T A cx call) {n : Fr} :
    ∀ (c : Code), dstsOk n.n c = true → ∀ (Q : Exit → Act → World → Prop) (env : Hx.T AV) (h : Heap) (E : Emb) (a : Act) (w : World) (kn : Hx.T AV → Heap → R) (kx : Nat → Hx.T AV → Heap → R) (kr : Hx.T AV → Heap → R), EnvR σ E n env a → HR σ B cx.gm E h w →
      T (exec A cx call (compile P n.mask c) env h kn kx kr) → Cont σ B cx.gm n T E h w kn (Q .normal) → (∀ id, Cont σ B cx.gm n T E h w (kx id) (Q (.exit id))) → Cont σ B cx.gm n T E h w kr (Q .ret) → c.wp P Q a w := by
  intro c
  induction c with
  | skip => intro _ Q env h E a w kn kx kr he H hk hn hx hr; exact wp_skip (hn.now he H hk)
  | ret => intro _ Q env h E a w kn kx kr he H hk hn hx hr; exact wp_ret (hr.now he H hk)
  | exit id => intro _ Q env h E a w kn kx kr he H hk hn hx hr; exact wp_exit ((hx id).now he H hk)
  | seq x y ihx ihy =>
    intro hd Q env h E a w kn kx kr he H hk hn hx hr
    simp only [dstsOk, Bool.and_eq_true] at hd
    refine wp_seq (ihx hd.1 _ env h E a w _ kx kr he H hk (fun env' h' E' a' w' he' H' tr hk' => ?_) hx hr)
    exact ihy hd.2 Q env' h' E' a' w' kn kx kr he' H' hk' (hn.on H tr) (fun id => (hx id).on H tr) (hr.on H tr)
  | cond c x y ihx ihy =>
    intro hd Q env h E a w kn kx kr he H hk hn hx hr
    simp only [dstsOk, Bool.and_eq_true] at hd
    simp only [compile] at hk
    cases hc : cOpd c with
    | none => rw [hc] at hk; exact (hT.fail _ hk).elim
    | some m =>
      rw [hc] at hk
      have hk2 : T (match evc env m with
        | some (.bool b) => if b then exec A cx call (compile P n.mask x) env h kn kx kr else exec A cx call (compile P n.mask y) env h kn kx kr
        | some (.opq i) => A.split i fun v => match v with
          | .bool b => if b then exec A cx call (compile P n.mask x) env h kn kx kr else exec A cx call (compile P n.mask y) env h kn kx kr
          | _ => A.fail 108
        | _ => A.fail 109) := hk
      cases hv : evc env m with
      | none => rw [hv] at hk2; exact (hT.fail _ hk2).elim
      | some v =>
        rw [hv] at hk2
        have hr' := he.opd hc hv
        cases v with
        | bool b =>
          generalize hu : a.eval c = u at hr'
          cases hr'
          refine wp_cond hu ?_
          cases b
          · exact ihy hd.2 Q env h E a w kn kx kr he H hk2 hn hx hr
          · exact ihx hd.1 Q env h E a w kn kx kr he H hk2 hn hx hr
        | opq i =>
          generalize hu : a.eval c = u at hr'
          cases hr'
          obtain ⟨v, hv', hk3⟩ := hT.split _ _ hk2
          have hv' := hv' E
          generalize hs : σ i = z at hv'
          cases hv' with
          | bool b =>
            refine wp_cond (hu.trans hs) ?_
            cases b
            · exact ihy hd.2 Q env h E a w kn kx kr he H hk3 hn hx hr
            · exact ihx hd.1 Q env h E a w kn kx kr he H hk3 hn hx hr
          | _ => exact (hT.fail _ hk3).elim
        | _ => exact (hT.fail _ hk2).elim
  | block id c ih =>
    intro hd Q env h E a w kn kx kr he H hk hn hx hr
    refine wp_block (ih hd _ env h E a w kn (fun i env h => if Nat.beq i id then kn env h else kx i env h) kr he H hk (fun env' h' E' a' w' he' H' tr hk' => hn env' h' E' a' w' he' H' tr hk') (fun i env' h' E' a' w' he' H' tr hk' => ?_) (fun env' h' E' a' w' he' H' tr hk' => hr env' h' E' a' w' he' H' tr hk'))
    dsimp only at hk'
    by_cases e : i = id
    · subst e
      rw [if_pos (Nat.beq_refl i)] at hk'
      have := hn env' h' E' a' w' he' H' tr hk'
      simpa [Exit.inBlock] using this
    · rw [if_neg (fun h => e (Nat.eq_of_beq_eq_true h))] at hk'
      have := hx i env' h' E' a' w' he' H' tr hk'
      simpa [Exit.inBlock, e] using this
  | loop c ih =>
    intro hd Q env h E a w kn kx kr he H hk hn hx hr
    let it : Nat → Hx.T AV → Heap → R := fun m => Nat.rec (motive := fun _ => Hx.T AV → Heap → R) (fun _ _ => A.fail 110) (fun _ it env h => exec A cx call (compile P n.mask c) env h it kx kr) m
    let J : Nat → Act → World → Prop := fun m a w => ∃ env h E, EnvR σ E n env a ∧ HR σ B cx.gm E h w ∧ T (it m env h) ∧ (∀ id, Cont σ B cx.gm n T E h w (kx id) (Q (.exit id))) ∧ Cont σ B cx.gm n T E h w kr (Q .ret)
    refine wp_loop (fun a w => ∃ m, J m a w) (fun a w => least (fun m => J m a w)) ⟨cx.rounds, env, h, E, he, H, hk, hx, hr⟩ fun a w hI => ?_
    obtain ⟨env, h, E, he, H, hk, hx, hr⟩ := least_spec hI
    generalize hm : least (fun m => J m a w) = m at hk
    cases m with
    | zero => exact (hT.fail _ hk).elim
    | succ m =>
      refine ih hd _ env h E a w (it m) kx kr he H hk (fun env' h' E' a' w' he' H' tr hk' => ?_) (fun id env' h' E' a' w' he' H' tr hk' => hx id env' h' E' a' w' he' H' tr hk') (fun env' h' E' a' w' he' H' tr hk' => hr env' h' E' a' w' he' H' tr hk')
      have hJ : J m a' w' := ⟨env', h', E', he', H', hk', fun id => (hx id).on H tr, hr.on H tr⟩
      refine ⟨⟨m, hJ⟩, ?_⟩
      show least (fun m => J m a' w') < _
      have := least_le (p := fun m => J m a' w') hJ
      omega
  | region id ops d =>
    intro hd Q env h E a w kn kx kr he H hk hn hx hr
    cases d with
    | true => exact hdraw n id ops Q env h E a w kn (dstsOk_region hd) he H kx kr hk hn
    | false => exact wp_region_list (runOps_sound hT hσ hb ho hcall ops.toList (dstsOk_region hd) [] env h E a w he (SubR.nil _ _ _) H hk hn)
  | _ => intro hd Q env h E a w kn kx kr he H hk hn hx hr; exact (hT.fail _ hk).elim
end
end Go.Hx
/- Bodies. -/
namespace Go.Hx
open Go
variable {σ : Nat → Value} {B : Nat} {E E' E'' : Emb} {w w' w'' : World} {nid : Nat} {P : Program}

theorem env_args {E : Emb} {l : List AV} {args : Array Value} {n : Fr} (h : VRels σ E l args.toList) (hn : l.length ≤ n.n) (hm : n.mask % 2 ^ l.length = 0) : EnvR σ E n (ofList l) { tmps := args ++ Array.replicate (n.n - args.size) undef, defers := [] } := by
  have hl := h.length
  simp only [Array.length_toList] at hl
  refine ⟨rfl, by simp; omega, fun i v hv => ?_, fun i hi => ?_⟩
  case refine_2 =>
    rw [ofList_get]
    rcases Nat.lt_or_ge i l.length with h' | h'
    · have : (n.mask % 2 ^ l.length).testBit i = true := by rw [Nat.testBit_mod_two_pow]; simp [h', hi]
      rw [hm] at this
      simp at this
    · exact List.getElem?_eq_none h'
  rw [ofList_get] at hv
  obtain ⟨u, hu, hr⟩ := h.get hv
  have hu' : args[i]? = some u := by simpa using hu
  refine ⟨u, ?_, hr⟩
  have hlt : i < args.size := by
    rcases Nat.lt_or_ge i args.size with h | h
    · exact h
    · rw [Array.getElem?_eq_none h] at hu'; cases hu'
  show (args ++ Array.replicate (n.n - args.size) undef)[i]? = some u
  rw [Array.getElem?_append_left hlt]; exact hu'
/-- One result. -/
def res1 (tmps : Array Value) : ResultVar → Sem Value
  | .tmp t => Pure.pure (tmps.getD t undef)
  | .cell a t => do loadVar t (← asAddr (tmps.getD a undef))
theorem resVals_sound {gm : Nat → Nat → Option AV} {h : Heap} {n : Fr} {env : Hx.T AV} {a : Act} (H : HR σ B gm E h w) (he : EnvR σ E n env a) : ∀ (rs : List ResultVar) (ms : List MRes), cRes P rs = some ms → ∀ vs, resVals gm env h ms = some vs →
    ∃ us, VRels σ E vs us ∧ (rs.mapM (res1 a.tmps)).run P w = .ok us w
  | [], ms, hc, vs, hv => by
    cases hc; cases hv
    exact ⟨[], .nil, by simp⟩
  | .tmp t :: rs, ms, hc, vs, hv => by
    simp only [cRes, Option.map_eq_some_iff] at hc
    obtain ⟨ms', hms, rfl⟩ := hc
    simp only [resVals] at hv
    split at hv
    · rename_i v vs' hg hvs
      cases hv
      obtain ⟨us, hr, hrun⟩ := resVals_sound H he rs ms' hms vs' hvs
      obtain ⟨u, hu, hru⟩ := he.val t v hg
      refine ⟨u :: us, .cons _ _ _ _ hru hr, ?_⟩
      have e : a.tmps.getD t undef = u := by simp [Array.getD_eq_getD_getElem?, hu]
      simp [List.mapM_cons, res1, e, hrun]
    · cases hv
  | .cell t ty :: rs, ms, hc, vs, hv => by
    simp only [cRes] at hc
    split at hc
    · rename_i m ms' hm hms
      cases hc
      simp only [resVals] at hv
      split at hv
      · rename_i av hg
        split at hv
        · rename_i v vs' hl hvs
          cases hv
          obtain ⟨us, hr, hrun⟩ := resVals_sound H he rs ms' hms vs' hvs
          obtain ⟨u, hu, hru⟩ := he.val t av hg
          have e : a.tmps.getD t undef = u := by simp [Array.getD_eq_getD_getElem?, hu]
          obtain ⟨q, hq, hqr⟩ := pur_load (P := P) H.obj H.gm hm (.cons _ _ _ _ hru .nil) v hl
          have hload : (do loadVar ty (← asAddr u) : Sem Value).run P w = .ok q w := by
            cases u <;> try (simp [Instr.loadAt, Instr.sureAddr, stuck] at hq)
            rename_i p
            cases p with
            | none => simp [Instr.loadAt, Instr.sureAddr, stuck] at hq
            | some p => simpa [Instr.loadAt, Instr.sureAddr, asAddr] using hq
          refine ⟨q :: us, .cons _ _ _ _ hqr hr, ?_⟩
          simp only [List.mapM_cons, res1, e, Sem.run_bind]
          simp only [Sem.run_bind] at hload
          rw [hload]
          simp [hrun]
        · cases hv
      · cases hv
    · cases hc
/-- What a call is asked to leave. -/
def Back {R : Type} (σ : Nat → Value) (B : Nat) (gm : Nat → Nat → Option AV) (T : R → Prop) (E : Emb) (h : Heap) (w : World) (k : AV → Heap → R) (u : Value) (w' : World) : Prop :=
  ∃ r E' h', VRel σ E' r u ∧ HR σ B gm E' h' w' ∧ Tr B E h.objs.get h.next w E' h'.objs.get h'.next w' ∧ T (k r h')
theorem cFunc_spec {F : Func} {mask : Nat} {fn : MFunc} (h : cFunc P mask F = some fn) : ∃ c, F.body = some c ∧ cRes P F.results.toList = some fn.results ∧ dstsOk F.ntmps c = true ∧ fn.ntmps = F.ntmps ∧ fn.mask = mask ∧ fn.body = compile P mask c := by
  unfold cFunc at h
  split at h
  · rename_i c rs hb hr
    split at h
    · rename_i hd
      cases h
      exact ⟨c, hb, hr, hd, rfl, rfl, rfl⟩
    · cases h
  · cases h
theorem run_results {F : Func} {tmps : Array Value} {us : List Value} (h : (F.results.toList.mapM (res1 tmps)).run P w = .ok us w) : (results F tmps).run P w = .ok (if h : us.length = 1 then us[0] else .tuple us.toArray) w := by
  have e : results F tmps = (do let vs ← F.results.mapM (res1 tmps); Pure.pure (if h : vs.size = 1 then vs[0] else .tuple vs)) := by
    rfl
  rw [e, Array.mapM_eq_mapM_toList]
  simp [h]
end Go.Hx
