/- One operation, whichever. -/
import Derived.Test.YtdbdebcakemmbaaGreatDoorHxSmallL
import Derived.Test.YtdbdebcakemmbaaGreatDoorHxFast
import Derived.Test.YtdbdebcakemmbaaGreatDoorHxPure
namespace Go.Hx
open Go
variable {σ : Nat → Value} {B : Nat} {E E' : Emb} {g : Nat → Option AO} {w w' : World} {nid : Nat} {P : Program} {ot : MOp → List AV → Option AV} {gm : Nat → Nat → Option AV}

theorem VRels.of_one {vs : List AV} {u : Value} (h : VRels σ E vs [u]) : ∃ v, vs = [v] ∧ VRel σ E v u := by
  cases h with | cons v _ vs _ hv hs => cases hs; exact ⟨v, rfl, hv⟩
theorem Step1.congr {out : List (AV × Ws)} {s t : Sem Next} (h : t.run P w = s.run P w) (hs : Step1 P σ B E g w nid out s) : Step1 P σ B E g w nid out t := by
  obtain ⟨r, ws, u, w', E', nx, a, b, c⟩ := hs
  exact ⟨r, ws, u, w', E', nx, a, by rw [h]; exact b, c⟩
theorem Step1.val (H : HObj σ B E g w) (hn : E nid = none) {s : Sem Next} {r : AV} {u : Value} (hr : VRel σ E r u) (h : s.run P w = .ok (.value u) w) : Step1 P σ B E g w nid (one r) s :=
  ⟨r, [], u, w, E, .value u, List.mem_cons_self, h, .inl rfl, SPost.pure H hn hr (Drew.refl w)⟩
theorem step_mov (H : HObj σ B E g w) (hn : E nid = none) {vs : List AV} {u : Value} (hv : VRels σ E vs [u]) : Step1 P σ B E g w nid (small gm ot .mov g nid vs) (Pure.pure (.value u)) := by
  obtain ⟨v, rfl, h⟩ := hv.of_one
  exact Step1.val H hn h (by simp)
theorem step_nilc (H : HObj σ B E g w) (hn : E nid = none) {vs : List AV} {o : Oper} {x : Operand} (ho : o.op = .nilCheck x) {ρ : Operand → Value} (hv : VRels σ E vs [ρ x]) (hne : small gm ot .nilc g nid vs ≠ []) : Step1 P σ B E g w nid (small gm ot .nilc g nid vs) (execOp ρ o) := by
  obtain ⟨v, rfl, h⟩ := hv.of_one
  have hne' := ones_ne hne
  show Step1 P σ B E g w nid (ones (sNilc [v])) _
  unfold sNilc at hne' ⊢
  split at hne'
  · rename_i heq
    simp only [List.cons.injEq, and_true] at heq
    subst heq
    obtain ⟨b, base, size, hu, _⟩ := h.ptr_inv
    exact Step1.val H hn h (by simp [execOp, ho, hu])
  · rename_i heq
    simp only [List.cons.injEq, and_true] at heq
    subst heq
    generalize hu : ρ x = u at h
    cases h
    exact Step1.val H hn (.gptr _ _) (by simp [execOp, ho, hu])
  · rename_i heq
    simp only [List.cons.injEq, and_true] at heq
    subst heq
    generalize hu : ρ x = u at h
    cases h with
    | func _ _ _ a c ha hc => exact Step1.val H hn (.func _ _ _ a c ha hc) (by simp [execOp, ho, hu])
  · exact absurd rfl hne'
theorem step_pick (H : HObj σ B E g w) (hn : E nid = none) {vs : List AV} {o : Oper} {c a b : Operand} (ho : o.op = .pick c a b) {ρ : Operand → Value} (hv : VRels σ E vs [ρ c, ρ a, ρ b]) (hne : small gm ot .pick g nid vs ≠ []) : Step1 P σ B E g w nid (small gm ot .pick g nid vs) (execOp ρ o) := by
  cases hv with
  | cons v1 _ vs1 _ h1 hs1 =>
    cases hs1 with
    | cons v2 _ vs2 _ h2 hs2 =>
      cases hs2 with
      | cons v3 _ vs3 _ h3 hs3 =>
        cases hs3
        cases v1 <;> try exact absurd rfl hne
        rename_i q
        generalize hu : ρ c = u at h1
        cases h1
        cases q
        · exact Step1.val H hn h3 (by simp [execOp, ho, hu, asBool])
        · exact Step1.val H hn h2 (by simp [execOp, ho, hu, asBool])
theorem step_ext (H : HObj σ B E g w) (hn : E nid = none) {vs : List AV} {i : Nat} {x : Value} (hv : VRels σ E vs [x]) (hne : small gm ot (.ext i) g nid vs ≠ []) : Step1 P σ B E g w nid (small gm ot (.ext i) g nid vs) (do Pure.pure (.value (← Instr.extract x i))) := by
  obtain ⟨v, rfl, h⟩ := hv.of_one
  cases v <;> try exact absurd rfl hne
  rename_i l
  cases h with
  | tup _ c hc =>
    have hne' : ones l[i]? ≠ [] := hne
    show Step1 P σ B E g w nid (ones l[i]?) _
    cases hl : l[i]? with
    | none => rw [hl] at hne'; exact absurd rfl hne'
    | some r =>
      obtain ⟨u, hu, hr⟩ := hc.get hl
      have hu' : c[i]? = some u := by simpa using hu
      exact Step1.val H hn hr (by simp [Instr.extract, hu'])
theorem step_un (H : HObj σ B E g w) (hn : E nid = none) (ho : OtOk P σ ot) {op : UnOp} {vs : List AV} {x : Value} (hv : VRels σ E vs [x]) (hne : small gm ot (.un op) g nid vs ≠ []) : Step1 P σ B E g w nid (small gm ot (.un op) g nid vs) (do Pure.pure (.value (← Op.unary op x))) := by
  have e : small gm ot (.un op) g nid vs = (match sUn op vs with | some v => one v | none => ones (ot (.un op) vs)) := rfl
  rw [e] at hne ⊢
  cases hs : sUn op vs with
  | some r =>
    rw [hs] at hne
    exact (fun h => (Pur.step (v := some r) H hn h hne)) (hs ▸ pur_un hv)
  | none =>
    rw [hs] at hne
    refine Pur.step H hn (fun r hr => ?_) hne
    obtain ⟨x', hx, hw⟩ := ho.un _ _ _ hr _ _ hv
    cases hx
    exact hw w
theorem step_conv (H : HObj σ B E g w) (hn : E nid = none) (ho : OtOk P σ ot) {k : IntKind} {vs : List AV} {x : Value} {s d : TypeId} (hd : P.underlying d = some (.int k)) (hs : ∃ j, P.underlying s = some (.int j)) (hv : VRels σ E vs [x]) (hne : small gm ot (.conv k) g nid vs ≠ []) :
    Step1 P σ B E g w nid (small gm ot (.conv k) g nid vs) (do Pure.pure (.value (← convert s d x))) := by
  have e : small gm ot (.conv k) g nid vs = (match sConv k vs with | some v => one v | none => ones (ot (.conv k) vs)) := rfl
  rw [e] at hne ⊢
  cases hs' : sConv k vs with
  | some r =>
    rw [hs'] at hne
    exact (fun h => (Pur.step (v := some r) H hn h hne)) (hs' ▸ pur_conv hv hd hs)
  | none =>
    rw [hs'] at hne
    refine Pur.step H hn (fun r hr => ?_) hne
    obtain ⟨x', hx, hw⟩ := ho.conv _ _ _ hr _ _ hv
    cases hx
    exact hw s d w hd hs
theorem step_s2s (H : HObj σ B E g w) (hn : E nid = none) {vs : List AV} {x : Value} {s d : TypeId} (hs : P.underlying s = some .string) (hd : P.underlying d = some .string) (hv : VRels σ E vs [x]) (hne : small gm ot .s2s g nid vs ≠ []) :
    Step1 P σ B E g w nid (small gm ot .s2s g nid vs) (do Pure.pure (.value (← convert s d x))) := by
  obtain ⟨v, rfl, h⟩ := hv.of_one
  cases v <;> try exact absurd rfl hne
  obtain ⟨b, rfl, hb⟩ := h.str_inv
  exact Step1.val H hn h (by simp [convert, run_underlying hs, run_underlying hd])
theorem step_mki (H : HObj σ B E g w) (hn : E nid = none) {vs : List AV} {x : Value} {t : TypeId} {d : TypeDesc} (ht : P.underlying t = some d) (hd : ∀ q, d ≠ .interface q) (hv : VRels σ E vs [x]) :
    Step1 P σ B E g w nid (small gm ot (.mki t) g nid vs) (do Pure.pure (.value (← Instr.makeInterface t x))) := by
  obtain ⟨v, rfl, h⟩ := hv.of_one
  refine Step1.val H hn (.iface t v x h) ?_
  simp only [Instr.makeInterface, Sem.run_bind, run_underlying ht, Result.andThen_ok]
  cases d <;> first | exact absurd rfl (hd _) | simp
theorem step_mkf (H : HObj σ B E g w) (hn : E nid = none) {vs : List AV} {f : FuncId} {a c : Array Operand} {ρ : Operand → Value} (hv : VRels σ E vs ((a.toList ++ c.toList).map ρ)) (hne : small gm ot (.mkf f a.size) g nid vs ≠ []) :
    Step1 P σ B E g w nid (small gm ot (.mkf f a.size) g nid vs) (do Pure.pure (.value (← Instr.makeFunc (.func f) (a.map ρ) (c.map ρ)))) := by
  have e : small gm ot (.mkf f a.size) g nid vs = ones (sMkf f a.size vs) := rfl
  rw [e] at hne ⊢
  unfold sMkf at hne ⊢
  split at hne
  · rename_i hle
    rw [if_pos hle]
    refine Step1.val H hn (.func f _ _ (a.map ρ) (c.map ρ) ?_ ?_) (by simp [Instr.makeFunc])
    · have := hv.take a.size
      rw [List.map_append, List.take_left' (by simp)] at this
      simpa using this
    · have := hv.drop a.size
      rw [List.map_append, List.drop_left' (by simp)] at this
      simpa using this
  · exact absurd rfl hne

theorem step_binop (H : HObj σ B E g w) (hn : E nid = none) (ho : OtOk P σ ot) {op : BinOp} {t : TypeId} {xo yo : Operand} {x y : Value} {vs : List AV} (hv : VRels σ E vs [x, y]) (hne : small gm ot (cBin P op t) g nid vs ≠ []) :
    Step1 P σ B E g w nid (small gm ot (cBin P op t) g nid vs) (do Pure.pure (.value (← (do eqGuard op t xo yo x y; binOp op t x y : Sem Value)))) := by
  generalize hc : cBin P op t = mop at hne ⊢
  have bad : MOp.bad = mop → False := fun h => by subst h; exact hne rfl
  unfold cBin at hc
  split at hc
  · subst hc; exact (does_bin H hn ho hv t xo yo hne).step
  · subst hc; exact (does_bin H hn ho hv t xo yo hne).step
  · rename_i ht
    split at hc
    · subst hc; exact (pur_eqb (neg := false) hv t xo yo ht).step H hn hne
    · subst hc; exact (pur_eqb (neg := true) hv t xo yo ht).step H hn hne
    · exact (bad hc).elim
  · rename_i ht
    split at hc
    · subst hc; exact (pur_eqp (neg := false) hv t _ xo yo ht).step H hn hne
    · subst hc; exact (pur_eqp (neg := true) hv t _ xo yo ht).step H hn hne
    · exact (bad hc).elim
  · rename_i ht
    split at hc
    · subst hc; exact (pur_eqs (neg := false) hv t _ xo yo ht).step H hn hne
    · subst hc; exact (pur_eqs (neg := true) hv t _ xo yo ht).step H hn hne
    · exact (bad hc).elim
  · rename_i ht
    split at hc
    · subst hc; exact (pur_eqm (neg := false) hv t _ _ xo yo ht).step H hn hne
    · subst hc; exact (pur_eqm (neg := true) hv t _ _ xo yo ht).step H hn hne
    · exact (bad hc).elim
  · rename_i ht
    split at hc
    · subst hc; exact (pur_eqf (neg := false) hv t _ _ _ xo yo ht).step H hn hne
    · subst hc; exact (pur_eqf (neg := true) hv t _ _ _ xo yo ht).step H hn hne
    · exact (bad hc).elim
  · rename_i fs ht
    split at hc
    · rename_i ks hks
      split at hc
      · rename_i hcond
        simp only [Bool.and_eq_true, Bool.not_eq_true'] at hcond
        split at hc
        · subst hc; exact (pur_eqst (neg := false) hv t fs xo yo ht hks hcond.1 hcond.2).step H hn hne
        · subst hc; exact (pur_eqst (neg := true) hv t fs xo yo ht hks hcond.1 hcond.2).step H hn hne
        · exact (bad hc).elim
      · exact (bad hc).elim
    · exact (bad hc).elim
  · exact (bad hc).elim

theorem small_sound (hσ : OneOpq σ) (hg : GmOk σ gm w) (ho : OtOk P σ ot) (H : HObj σ B E g w) (hn : E nid = none) (hB : B ≤ w.heap.size) (ρ : Operand → Value) (o : Oper) {vs : List AV} (hv : VRels σ E vs ((cOp P o.op).2.map ρ))
    (hne : small gm ot (cOp P o.op).1 g nid vs ≠ []) : Step1 P σ B E g w nid (small gm ot (cOp P o.op).1 g nid vs) (execOp ρ o) := by
  obtain ⟨dst, op, type, pos, after, guard⟩ := o
  dsimp only at hv hne ⊢
  generalize hc : cOp P op = c at hv hne ⊢
  obtain ⟨mop, xs⟩ := c
  dsimp only at hv hne ⊢
  have bad : ∀ {l}, (MOp.bad, l) = (mop, xs) → False := fun h => by
    simp only [Prod.mk.injEq] at h
    obtain ⟨rfl, _⟩ := h
    exact hne rfl
  cases op <;> simp only [cOp] at hc <;> try exact (bad hc).elim
  case move x => cases hc; exact step_mov H hn hv
  case assign x => cases hc; exact step_mov H hn hv
  case pick a b c => cases hc; exact step_pick H hn rfl hv hne
  case alloc t =>
    split at hc
    · rename_i z hz; cases hc; exact (does_alloc hσ H hn hB hz hne _).step
    · exact (bad hc).elim
  case box t x => cases hc; exact (does_box hσ H hn hB hv hne).step
  case build t parts =>
    split at hc
    · rename_i z fs hz ht
      split at hc
      · rename_i ps hp
        split at hc
        · rename_i ha
          cases hc
          exact (pur_build_struct hσ hz ht hp ha (by simpa [List.map_map, Function.comp_def] using hv)).step H hn hne
        · exact (bad hc).elim
      · exact (bad hc).elim
    · rename_i z len e hz ht
      split at hc
      · rename_i n he
        split at hc
        · rename_i ps hp
          cases hc
          exact (pur_build_array hσ hz ht he hp (by simpa [List.map_map, Function.comp_def] using hv)).step H hn hne
        · exact (bad hc).elim
      · exact (bad hc).elim
    · exact (bad hc).elim
  case buildSlice t len parts =>
    split at hc
    · rename_i e ht
      split at hc
      · rename_i n z he hz
        split at hc
        · rename_i ps hp
          split at hc
          · rename_i hcond
            simp only [Bool.and_eq_true, decide_eq_true_eq] at hcond
            cases hc
            exact (does_bslice hσ H hn hB ht he hz hp hcond.1.1 hcond.1.2 hcond.2 (by simpa [List.map_map, Function.comp_def] using hv) hne).step
          · exact (bad hc).elim
        · exact (bad hc).elim
      · exact (bad hc).elim
    · exact (bad hc).elim
  case load t a =>
    split at hc
    · rename_i n ht; cases hc; exact (pur_load H hg ht hv).step H hn hne
    · exact (bad hc).elim
  case store t a x =>
    split at hc
    · rename_i n ht; cases hc; exact (does_store hσ H hn ht hv hne).stepU
    · exact (bad hc).elim
  case nilCheck x => cases hc; exact step_nilc H hn rfl hv hne
  case binOp op t x y q => cases hc; exact step_binop H hn ho hv hne
  case unOp op t x => cases hc; exact step_un H hn ho hv hne
  case convert s d x =>
    split at hc
    · rename_i j k hs hd; cases hc; exact step_conv H hn ho hd ⟨_, hs⟩ hv hne
    · rename_i hs hd; cases hc; exact step_s2s H hn hs hd hv hne
    · rename_i e hs hd
      split at hc
      · rename_i he; cases hc; exact (does_s2b hσ H hn hB hs hd he hv hne).step
      · exact (bad hc).elim
    · rename_i e hs hd
      split at hc
      · rename_i he; cases hc; exact (does_b2s H hn hs hd he hv hne).step
      · exact (bad hc).elim
    · exact (bad hc).elim
  case makeInterface t x =>
    split at hc
    · exact (bad hc).elim
    · rename_i d hnd hd; cases hc; exact step_mki H hn hd (fun q e => hnd q e) hv
    · exact (bad hc).elim
  case makeFunc fn a c =>
    cases fn <;> try exact (bad hc).elim
    cases hc; exact step_mkf H hn hv hne
  case makeMap t r =>
    split at hc
    · rename_i k e ht; cases hc; exact (does_mkm H hn hB ht (r := r.map ρ) (by cases r <;> exact hv) hne).step
    · exact (bad hc).elim
  case makeSlice t l c =>
    split at hc
    · rename_i e ht
      split at hc
      · rename_i i z hi hz; cases hc; exact (does_mks hσ H hn hB ht hi hz hv hne).step
      · exact (bad hc).elim
    · exact (bad hc).elim
  case slice t x lo hi mx =>
    split at hc
    · rename_i ht
      split at hc
      · exact (bad hc).elim
      · rename_i hm
        cases mx with
        | some _ => exact absurd rfl hm
        | none =>
          cases hc
          exact (pur_sls ht (ρ := ρ) (by cases lo <;> cases hi <;> exact hv)).step H hn hne
    · rename_i e ht
      split at hc
      · rename_i n he; cases hc
        exact (pur_slc ht he (ρ := ρ) (by cases lo <;> cases hi <;> cases mx <;> exact hv)).step H hn hne
      · exact (bad hc).elim
    · rename_i n e ht
      split at hc
      · rename_i es he; cases hc
        exact (pur_sla ht he (ρ := ρ) (by cases lo <;> cases hi <;> cases mx <;> exact hv)).step H hn hne
      · exact (bad hc).elim
    · exact (bad hc).elim
  case fieldAddr s x i =>
    split at hc
    · rename_i fs ht
      split at hc
      · rename_i f hf
        split at hc
        · rename_i n he; cases hc; exact (pur_fa ht hf he hv).step H hn hne
        · exact (bad hc).elim
      · exact (bad hc).elim
    · exact (bad hc).elim
  case field t x i =>
    split at hc
    · rename_i fs ht
      split at hc
      · rename_i f hf
        split at hc
        · rename_i n a he ha; cases hc; exact (pur_fld ht hf he ha hv).step H hn hne
        · exact (bad hc).elim
      · exact (bad hc).elim
    · exact (bad hc).elim
  case indexAddr t x i =>
    split at hc
    · rename_i e ht
      split at hc
      · rename_i n he; cases hc; exact (pur_ia ht he hv).step H hn hne
      · exact (bad hc).elim
    · rename_i n e ht
      split at hc
      · rename_i es he; cases hc; exact (pur_iaa ht he hv).step H hn hne
      · exact (bad hc).elim
    · exact (bad hc).elim
  case index t x i =>
    split at hc
    · rename_i ht; cases hc; exact (pur_ixs ht hv).step H hn hne
    · exact (bad hc).elim
  case lookup t x i ok =>
    split at hc
    · rename_i k e ht
      split at hc
      · rename_i z kk hz hk; cases hc; exact (pur_look H ht hk hz hv).step H hn hne
      · exact (bad hc).elim
    · exact (bad hc).elim
  case mapUpdate t m k x =>
    split at hc
    · rename_i kt e ht
      split at hc
      · rename_i kk hk; cases hc; exact (does_mset H hn ht hk hv hne).stepU
      · exact (bad hc).elim
    · exact (bad hc).elim
  case insert t m k x =>
    split at hc
    · rename_i kt e ht
      split at hc
      · rename_i kk hk; cases hc; exact (does_mset H hn ht hk hv hne).stepU
      · exact (bad hc).elim
    · exact (bad hc).elim
  case range t x =>
    split at hc
    · rename_i ht; cases hc; exact (does_rng H hn hB (str := true) ht hv hne).step
    · rename_i k e ht; cases hc; exact (does_rng H hn hB (str := false) ⟨_, _, ht⟩ hv hne).step
    · exact (bad hc).elim
  case next it s => cases hc; exact (does_nxt H hn hv hne).step
  case entry it => cases hc; exact (pur_ent H hv).step H hn hne
  case extract t i => cases hc; exact step_ext H hn hv hne
  case call c =>
    split at hc
    · cases hc; exact absurd rfl hne
    · rename_i b hb
      cases hc
      refine Step1.congr ?_ (builtin_step hσ ho H hn hB (ty := type) (cs := c.args.map fun | .const _ => true | _ => false) (us := c.args.map ρ) (by simpa using hv) hne)
      simp [execOp, resolve, hb, invoke]
      rfl
    · exact (bad hc).elim
end Go.Hx
/- The operations by raw recursors are the operations. -/
namespace Go.Hx
open Go
variable {gm : Gm} {ot : Ot} {get : Get} {nid : Nat}

theorem c1_eq (vs : List AV) (d : Res) (f : AV → Res) : c1 vs d f = match vs with | [v] => f v | _ => d := by
  rcases vs with _ | ⟨v, _ | ⟨w, l⟩⟩ <;> rfl
theorem c2_eq (vs : List AV) (d : Res) (f : AV → AV → Res) : c2 vs d f = match vs with | [v, w] => f v w | _ => d := by
  rcases vs with _ | ⟨v, _ | ⟨w, _ | ⟨x, l⟩⟩⟩ <;> rfl
theorem cIf_eq (b : Bool) (x y : Res) : cIf b x y = if b then x else y := by cases b <;> rfl
theorem kmx_eq (k : IntKind) : kmx k = kmax k := by cases k <;> rfl
theorem kidx_eq (k : IntKind) : kidx k = k.ctorIdx := by cases k <;> rfl
theorem kbeq_kidx (a b : IntKind) : Nat.beq (kidx a) (kidx b) = kbeq a b := by rw [kidx_eq, kidx_eq]; rfl
theorem bool_ext {a b : Bool} (h : a = true ↔ b = true) : a = b := by cases a <;> cases b <;> simp_all
theorem dec_eq {p : Prop} [Decidable p] {b : Bool} (h : b = true ↔ p) : b = decide p := bool_ext (h.trans (by simp))
theorem int_eq (x y : Nat) : Nat.beq x y = true ↔ (Int.ofNat x = Int.ofNat y) := by
  rw [Nat.beq_eq]; exact ⟨fun h => congrArg Int.ofNat h, fun h => Int.ofNat.inj h⟩
theorem int_lt (x y : Nat) : Nat.blt x y = true ↔ (Int.ofNat x < Int.ofNat y) := by
  rw [show (Nat.blt x y = true) = (x < y) from by simp [Nat.blt, Nat.ble_eq]; rfl]; simp
theorem int_le (x y : Nat) : Nat.ble x y = true ↔ (Int.ofNat x ≤ Int.ofNat y) := by
  rw [Nat.ble_eq]; simp
theorem fBin_eq (b : BinOp) (k : IntKind) (x y : Nat) (s : Res) : fBin b k x y s = s ∨ ∃ v, isShift b = false ∧ intBin b k (.ofNat x) (.ofNat y) = some v ∧ fBin b k x y s = ret1 v := by
  have wr : ∀ n, Nat.ble n (kmx k) = true → wrapF k (.ofNat n) = .ofNat n := fun n h => by
    rw [kmx_eq] at h
    simp [wrapF, h]
  cases b
  case add =>
    show fAdd k x y s = s ∨ ∃ v, _ ∧ _ ∧ fAdd k x y s = _
    unfold fAdd; rw [force_eq, cIf_eq]
    by_cases h : Nat.ble (Nat.add x y) (kmx k) = true
    · rw [if_pos h]; exact .inr ⟨_, rfl, rfl, by show _ = ret1 (.int k (wrapF k (.ofNat (Nat.add x y)))); rw [wr _ h]⟩
    · rw [if_neg h]; exact .inl rfl
  case mul =>
    show fMul k x y s = s ∨ ∃ v, _ ∧ _ ∧ fMul k x y s = _
    unfold fMul; rw [force_eq, cIf_eq]
    by_cases h : Nat.ble (Nat.mul x y) (kmx k) = true
    · rw [if_pos h]; exact .inr ⟨_, rfl, rfl, by show _ = ret1 (.int k (wrapF k (.ofNat (Nat.mul x y)))); rw [wr _ h]⟩
    · rw [if_neg h]; exact .inl rfl
  case sub =>
    show fSub k x y s = s ∨ ∃ v, _ ∧ _ ∧ fSub k x y s = _
    unfold fSub; rw [cIf_eq, cIf_eq]
    by_cases h : Nat.ble y x = true
    · rw [if_pos h]
      by_cases h2 : Nat.ble x (kmx k) = true
      · rw [if_pos h2, force_eq]
        refine .inr ⟨_, rfl, rfl, ?_⟩
        have e : Int.sub (.ofNat x) (.ofNat y) = .ofNat (Nat.sub x y) := by
          have := Nat.le_of_ble_eq_true h
          show ((x : Int) - (y : Int)) = ((x - y : Nat) : Int)
          omega
        rw [e, wr]
        have h2 := Nat.le_of_ble_eq_true h2
        rw [Nat.ble_eq]
        exact Nat.le_trans (Nat.sub_le x y) h2
      · rw [if_neg h2]; exact .inl rfl
    · rw [if_neg h]; exact .inl rfl
  case eql => exact .inr ⟨_, rfl, rfl, congrArg (fun b => ret1 (.bool b)) (dec_eq (int_eq x y))⟩
  case neq => exact .inr ⟨_, rfl, rfl, congrArg (fun b => ret1 (.bool (!b))) (dec_eq (int_eq x y))⟩
  case lss => exact .inr ⟨_, rfl, rfl, congrArg (fun b => ret1 (.bool b)) (dec_eq (int_lt x y))⟩
  case leq => exact .inr ⟨_, rfl, rfl, congrArg (fun b => ret1 (.bool b)) (dec_eq (int_le x y))⟩
  case gtr => exact .inr ⟨_, rfl, rfl, congrArg (fun b => ret1 (.bool b)) (dec_eq (int_lt y x))⟩
  case geq => exact .inr ⟨_, rfl, rfl, congrArg (fun b => ret1 (.bool b)) (dec_eq (int_le y x))⟩
  all_goals exact .inl rfl
theorem xBin_eq (b : BinOp) (vs : List AV) : xBin b gm ot get nid vs = small gm ot (.bin b) get nid vs := by
  show xBin b gm ot get nid vs = match sBin b vs with | some v => one v | none => ones (ot (.bin b) vs)
  unfold xBin
  rcases vs with _ | ⟨v, _ | ⟨w, _ | ⟨z, l⟩⟩⟩ <;> try rfl
  cases v <;> try rfl
  rename_i k a
  cases w <;> try rfl
  rename_i k' c
  simp only [c2_eq, cIf_eq, kbeq_kidx]
  show (if kbeq k k' = true then cNat a _ fun a => cNat c _ fun c => fBin b k a c _ else _) = _
  split
  · rename_i hk
    cases a <;> try rfl
    rename_i a
    cases c <;> try rfl
    rename_i c
    rcases fBin_eq b k a c (match sBin b [AV.int k (Int.ofNat a), AV.int k' (Int.ofNat c)] with | some v => one v | none => ones (ot (.bin b) [AV.int k (Int.ofNat a), AV.int k' (Int.ofNat c)])) with h | ⟨v, h1, h2, h3⟩
    · exact h
    · refine h3.trans ?_
      simp only [sBin, h1, hk, if_true, Bool.false_eq_true, if_false, h2]
      rfl
  · rfl
theorem nth_eq (l : List AV) : ∀ i, nth l i = ones l[i]? := by
  induction l with
  | nil => intro i; rfl
  | cons v l ih =>
    intro i
    cases i with
    | zero => rfl
    | succ i => show nth l i = _; rw [ih]; simp
theorem xConv_eq (k : IntKind) (vs : List AV) : xConv k gm ot get nid vs = small gm ot (.conv k) get nid vs := by
  show xConv k gm ot get nid vs = match sConv k vs with | some v => one v | none => ones (ot (.conv k) vs)
  unfold xConv
  rcases vs with _ | ⟨v, _ | ⟨w, l⟩⟩ <;> try rfl
  cases v <;> try rfl
  rename_i k' a
  cases a <;> try rfl
  rename_i a
  show cIf (Nat.ble a (kmx k)) _ _ = _
  rw [cIf_eq]
  split
  · rename_i h
    rw [kmx_eq] at h
    simp [sConv, wrapF, h, ret1, one]
  · rfl
theorem xLoad_eq (n : Option Nat) (vs : List AV) : xLoad n gm ot get nid vs = small gm ot (.load n) get nid vs := by
  show _ = ones (sLoad gm n get vs)
  rcases vs with _ | ⟨v, _ | ⟨w, l⟩⟩
  · cases n <;> rfl
  · cases n with
    | none =>
      cases v <;> try rfl
      rename_i i o
      show cCells (get i) [] _ = ones (match get i with | some (.cells cs _ _) => cs.get o | _ => none)
      cases get i with
      | none => rfl
      | some x => cases x <;> try rfl
                  rename_i cs lo cl
                  show cOpt (cs.get o) [] ret1 = ones (cs.get o)
                  cases cs.get o <;> rfl
    | some n =>
      cases v <;> try rfl
      rename_i i o
      show cCells (get i) [] _ = ones (match get i with | some (.cells cs _ _) => (getRange cs o n).map .agg | _ => none)
      cases get i with
      | none => rfl
      | some x => cases x <;> rfl
  · cases n <;> cases v <;> rfl
theorem xStore_eq (n : Nat) (vs : List AV) : xStore n gm ot get nid vs = small gm ot (.store n) get nid vs := by
  show _ = sStore n get vs
  rcases vs with _ | ⟨v, _ | ⟨w, _ | ⟨z, l⟩⟩⟩ <;> try rfl
  · cases v <;> rfl
  · cases v <;> try rfl
    rename_i i o
    cases hg : get i with
    | none => simp [xStore, c2_eq, cPtr, cCells, hg, sStore]
    | some x =>
      cases x with
      | cells cs lo cl =>
        have key : ∀ w : AV, w.one = true → cellsOf w = [w] → cIf (Nat.beq n 1) (cIf (Nat.ble (Nat.add o 1) lo) [(AV.tup [], [(i, some (AO.cells (putList cs o [w]) lo cl))])] []) [] = sStore n get [.ptr i o, w] := fun w h1 h2 => by
          simp only [cIf_eq, h2, allOne, h1, List.length_singleton, Bool.and_true, sStore, hg]
          by_cases hn : n = 1
          · subst hn; simp
          · have : Nat.beq n 1 = false := by cases h : Nat.beq n 1 with
              | false => rfl
              | true => exact absurd (Nat.eq_of_beq_eq_true h) hn
            have h' : Nat.beq 1 n = false := by cases h : Nat.beq 1 n with
              | false => rfl
              | true => exact absurd (Nat.eq_of_beq_eq_true h).symm hn
            simp [this, h']
        have go : ∀ w : AV, xStore n gm ot get nid [.ptr i o, w] = AV.rec (motive_1 := fun _ => Res) (motive_2 := fun _ => Unit)
            (fun _ => cIf (Nat.beq n 1) (cIf (Nat.ble (Nat.add o 1) lo) [(.tup [], [(i, some (.cells (putList cs o [w]) lo cl))])] []) [])
            (fun _ _ => cIf (Nat.beq n 1) (cIf (Nat.ble (Nat.add o 1) lo) [(.tup [], [(i, some (.cells (putList cs o [w]) lo cl))])] []) [])
            (fun _ => cIf (Nat.beq n 1) (cIf (Nat.ble (Nat.add o 1) lo) [(.tup [], [(i, some (.cells (putList cs o [w]) lo cl))])] []) [])
            (cIf (Nat.beq n 1) (cIf (Nat.ble (Nat.add o 1) lo) [(.tup [], [(i, some (.cells (putList cs o [w]) lo cl))])] []) [])
            (fun _ _ => cIf (Nat.beq n 1) (cIf (Nat.ble (Nat.add o 1) lo) [(.tup [], [(i, some (.cells (putList cs o [w]) lo cl))])] []) [])
            (fun _ _ => cIf (Nat.beq n 1) (cIf (Nat.ble (Nat.add o 1) lo) [(.tup [], [(i, some (.cells (putList cs o [w]) lo cl))])] []) [])
            (cIf (Nat.beq n 1) (cIf (Nat.ble (Nat.add o 1) lo) [(.tup [], [(i, some (.cells (putList cs o [w]) lo cl))])] []) [])
            (fun _ _ _ _ _ => cIf (Nat.beq n 1) (cIf (Nat.ble (Nat.add o 1) lo) [(.tup [], [(i, some (.cells (putList cs o [w]) lo cl))])] []) [])
            (cIf (Nat.beq n 1) (cIf (Nat.ble (Nat.add o 1) lo) [(.tup [], [(i, some (.cells (putList cs o [w]) lo cl))])] []) [])
            (fun _ => cIf (Nat.beq n 1) (cIf (Nat.ble (Nat.add o 1) lo) [(.tup [], [(i, some (.cells (putList cs o [w]) lo cl))])] []) [])
            (fun _ _ _ _ _ => cIf (Nat.beq n 1) (cIf (Nat.ble (Nat.add o 1) lo) [(.tup [], [(i, some (.cells (putList cs o [w]) lo cl))])] []) [])
            (cIf (Nat.beq n 1) (cIf (Nat.ble (Nat.add o 1) lo) [(.tup [], [(i, some (.cells (putList cs o [w]) lo cl))])] []) [])
            (fun _ _ _ => cIf (Nat.beq n 1) (cIf (Nat.ble (Nat.add o 1) lo) [(.tup [], [(i, some (.cells (putList cs o [w]) lo cl))])] []) [])
            (cIf (Nat.beq n 1) (cIf (Nat.ble (Nat.add o 1) lo) [(.tup [], [(i, some (.cells (putList cs o [w]) lo cl))])] []) [])
            (fun _ _ => sStore n get [.ptr i o, w]) (fun _ _ => sStore n get [.ptr i o, w])
            (fun _ => cIf (Nat.beq n 1) (cIf (Nat.ble (Nat.add o 1) lo) [(.tup [], [(i, some (.cells (putList cs o [w]) lo cl))])] []) [])
            () (fun _ _ _ _ => ()) w := fun w => by
          show cCells (get i) [] _ = _
          rw [hg]
          rfl
        rw [go]
        cases w <;> first | exact key _ rfl rfl | rfl
      | _ => simp [xStore, c2_eq, cPtr, cCells, hg, sStore]
  · cases v <;> rfl
theorem xNilc_eq (vs : List AV) : xNilc gm ot get nid vs = small gm ot .nilc get nid vs := by
  show _ = ones (sNilc vs)
  rcases vs with _ | ⟨v, _ | ⟨w, l⟩⟩ <;> try rfl
  · cases v <;> rfl
  · cases v <;> rfl
theorem xFa_eq (d : Nat) (vs : List AV) : xFa d gm ot get nid vs = small gm ot (.fa d) get nid vs := by
  show _ = ones (sFa d vs)
  rcases vs with _ | ⟨v, _ | ⟨w, l⟩⟩ <;> try rfl
  · cases v <;> try rfl
    rename_i i o
    show force (Nat.add o d) (fun o => ret1 (.ptr i o)) = _
    rw [force_eq]; rfl
  · cases v <;> rfl
theorem xIa_eq (es : Nat) (vs : List AV) : xIa es gm ot get nid vs = small gm ot (.ia es) get nid vs := by
  show _ = ones (sIa es vs)
  rcases vs with _ | ⟨v, _ | ⟨w, _ | ⟨z, l⟩⟩⟩ <;> try rfl
  · cases v <;> rfl
  · cases v <;> try rfl
    rename_i i o len es' cap
    cases w <;> try rfl
    rename_i k n
    cases n <;> try rfl
    rename_i n
    show cIf (Nat.blt n len) (force _ _) [] = ones (if Nat.blt n len then some (.ptr i (o + n * es)) else none)
    rw [cIf_eq, force_eq]
    split <;> rfl
  · cases v <;> try rfl
    cases w <;> try rfl
    rename_i n
    cases n <;> rfl
theorem xLen_eq (k : Nat) (vs : List AV) : xLen k gm ot get nid vs = small gm ot (.len k) get nid vs := by
  show _ = match sLen k get vs with | some v => one v | none => ones (ot (.len k) vs)
  unfold xLen
  rw [cIf_eq]
  split
  · rename_i h
    rcases vs with _ | ⟨v, _ | ⟨w, l⟩⟩ <;> try rfl
    cases v <;> try rfl
    show ret1 _ = _
    simp only [sLen, h, if_true]
    rfl
  · rfl
theorem smallF_eq (op : MOp) (vs : List AV) : smallF gm ot op get nid vs = small gm ot op get nid vs := by
  cases op
  case mov => rcases vs with _ | ⟨v, _ | ⟨w, l⟩⟩ <;> rfl
  case pick =>
    rcases vs with _ | ⟨v, _ | ⟨w, _ | ⟨z, _ | ⟨y, l⟩⟩⟩⟩ <;> try rfl
    all_goals (cases v <;> try rfl)
    rename_i b; cases b <;> rfl
  case ext i =>
    rcases vs with _ | ⟨v, _ | ⟨w, l⟩⟩ <;> try rfl
    · cases v <;> try rfl
      exact nth_eq _ _
    · cases v <;> rfl
  case bin b => exact xBin_eq b vs
  case conv k => exact xConv_eq k vs
  case load n => exact xLoad_eq n vs
  case store n => exact xStore_eq n vs
  case nilc => exact xNilc_eq vs
  case fa d => exact xFa_eq d vs
  case ia es => exact xIa_eq es vs
  case len k => exact xLen_eq k vs
  all_goals rfl
theorem smallF_fun : smallF gm ot = small gm ot := by
  funext op get nid vs
  exact smallF_eq op vs
end Go.Hx
