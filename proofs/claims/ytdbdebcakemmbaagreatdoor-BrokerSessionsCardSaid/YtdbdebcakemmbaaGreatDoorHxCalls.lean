/- Calls. -/
import Derived.Test.YtdbdebcakemmbaaGreatDoorHxDrawG
import Derived.Test.YtdbdebcakemmbaaGreatDoorHxSoundC
import Derived.Lib.Bytealg
import Derived.Laws.Externs
namespace Go.Hx
open Go
variable {σ : Nat → Value} {B : Nat} {E E' : Emb} {w w' : World} {P : Program} {cx : Cx}

theorem Enters.mono {f : FuncId} {vs : Array Value} {Q Q' : Value → World → Prop} (h : Enters P f vs w Q) (hq : ∀ u w', Q u w' → Q' u w') : Enters P f vs w Q' := by
  rcases h with ⟨h1, h2⟩ | ⟨u, w', h1, h2⟩
  · exact .inl ⟨h1, Calls.mono h2 fun e w' ⟨u, h, hh⟩ => ⟨u, h, hq u w' hh⟩⟩
  · exact .inr ⟨u, w', h1, hq u w' h2⟩
/-- No function of the program is the one that counts goroutines. -/
def NamesOk (P : Program) : Prop := ∀ (f : FuncId) (F : Func), P.funcs[f]? = some F → F.name ≠ "runtime.NumGoroutine"
theorem enter_run (hn : NamesOk P) {f : FuncId} {F : Func} {c : Code} (hf : P.funcs[f]? = some F) (hb : F.body = some c) (vs : Array Value) : (callFunc f vs).run P w = .ok (.enter f vs) w := by
  unfold callFunc
  have h1 := hn f F hf
  simp [hf, h1, hb]
section
variable {R : Type} {A : Ans R} {T : R → Prop} {call : Call R}
theorem callBody_sound (hm : P.follows .mixedOrders = true) (hn : NamesOk P) (hT : Ok σ A T) (hσ : OneOpq σ) (hb : GmB B cx.gm) (ho : OtOk P σ cx.ot) (hcall : CallOk P σ B cx.gm T call) {f : FuncId} {F : Func} {mask : Nat} {fn : MFunc} (hf : P.funcs[f]? = some F) (hfn : cFunc P mask F = some fn)
    {args : List AV} {vs : Array Value} {h : Heap} {k : AV → Heap → R} (hv : VRels σ E args vs.toList) (H : HR σ B cx.gm E h w) (hk : T (callBody A cx call fn args h k)) : Enters P f vs w (Back σ B cx.gm T E h w k) := by
  obtain ⟨c, hbody, hres, hdst, hnt, hmask, hcode⟩ := cFunc_spec hfn
  refine .inl ⟨enter_run hn hf hbody vs, ?_⟩
  unfold callBody at hk
  dsimp only at hk
  split at hk
  case isFalse => exact (hT.fail _ hk).elim
  rename_i hchk
  simp only [Bool.and_eq_true] at hchk
  have hle : args.length ≤ F.ntmps := by rw [← hnt]; exact Nat.le_of_ble_eq_true hchk.1
  have hmod : mask % 2 ^ args.length = 0 := by rw [← hmask]; exact Nat.eq_of_beq_eq_true hchk.2
  have he : EnvR σ E ⟨F.ntmps, mask⟩ (ofList args) { tmps := vs ++ Array.replicate (F.ntmps - vs.size) undef, defers := [] } := env_args hv hle hmod
  refine calls_of_wp hf hbody ?_
  rw [hcode] at hk
  have fin : ∀ (e : Exit), (e = .normal ∨ e = .ret) → Cont σ B cx.gm ⟨F.ntmps, mask⟩ T E h w (fun env h => match resVals cx.gm env h fn.results with
      | some vs => k (resOf vs) h
      | none => A.fail 112) (bodyPost P F (fun e w' => ∃ u, e = .returned u ∧ Back σ B cx.gm T E h w k u w') e) := fun e hee env' h' E' a' w' he' H' tr hk' => by
    have hk' : T (match resVals cx.gm env' h' fn.results with
      | some vs => k (resOf vs) h'
      | none => A.fail 112) := hk'
    cases hrv : resVals cx.gm env' h' fn.results with
    | none => rw [hrv] at hk'; exact (hT.fail _ hk').elim
    | some rs =>
      rw [hrv] at hk'
      obtain ⟨us, hr, hrun⟩ := resVals_sound (P := P) H' he' F.results.toList fn.results hres rs hrv
      have hrun2 := run_results hrun
      have key : a'.defers = [] ∧ ∃ v, (results F a'.tmps).run P w' = .ok v w' ∧ ∃ u, Ending.returned v = .returned u ∧ Back σ B cx.gm T E h w k u w' := by
        refine ⟨he'.defers, _, hrun2, _, rfl, resOf rs, E', h', ?_, H', tr, hk'⟩
        have hl := hr.length
        match rs, us, hr, hl with
        | [v], [u], .cons _ _ _ _ h1 _, _ => simpa [resOf] using h1
        | [], [], _, _ => exact .tup _ _ .nil
        | v :: v' :: vs, u :: u' :: us, hr, _ =>
          have e : (u :: u' :: us).length ≠ 1 := by simp
          rw [dif_neg e]
          exact .tup _ _ (by simpa using hr)
      rcases hee with rfl | rfl <;> exact key
  exact exec_sound hT hσ hb ho hcall (draw_ok hm hT hσ hb ho hcall) c hdst _ (ofList args) h E _ w _ _ _ he H hk (fin .normal (.inl rfl)) (fun id env' h' E' a' w' _ _ _ hk' => (hT.fail _ hk').elim) (fin .ret (.inr rfl))
end

/-! ### Answers that hang on what was taken -/
structure Ok0 {R : Type} (A : Ans0 R) (T : R → Prop) : Prop where
  both : ∀ a b, T (A.both a b) → T a ∧ T b
  fail : ∀ n, ¬ T (A.fail n)
def Cons (σ : Nat → Value) (g : Asg) : Prop := ∀ i v, g.get i = some v → ∀ E, VRel σ E v (σ i)
def LiftT (σ : Nat → Value) {R : Type} (T : R → Prop) : (Asg → R) → Prop := fun r => ∃ g, Cons σ g ∧ T (r g)
/-- What is told of the opaque values is so. -/
def ChOk (σ : Nat → Value) (ch : Asg → Nat → Option (List AV)) : Prop := ∀ g i l, Cons σ g → ch g i = some l → ∃ v ∈ l, ∀ E, VRel σ E v (σ i)
section
variable {R : Type} {A : Ans0 R} {T : R → Prop}
theorem allOf_sound (hT : Ok0 A T) {k : AV → R} : ∀ {l : List AV}, T (allOf A k l) → ∀ v ∈ l, T (k v)
  | [], _, v, hv => by simp at hv
  | [x], h, v, hv => by rw [List.mem_singleton.1 hv]; exact h
  | x :: y :: l, h, v, hv => by
    obtain ⟨h1, h2⟩ := hT.both _ _ h
    rcases List.mem_cons.1 hv with rfl | hv
    · exact h1
    · exact allOf_sound hT h2 v hv
theorem each3_sound (hT : Ok0 A T) {k : AV → Heap → Asg → R} : ∀ {l : List Out}, T (each3 A k l) → ∀ x ∈ l, T (k x.1 x.2.1 x.2.2)
  | [], _, v, hv => by simp at hv
  | [x], h, v, hv => by rw [List.mem_singleton.1 hv]; exact h
  | x :: y :: l, h, v, hv => by
    obtain ⟨h1, h2⟩ := hT.both _ _ h
    rcases List.mem_cons.1 hv with rfl | hv
    · exact h1
    · exact each3_sound hT h2 v hv
theorem Cons.put {g : Asg} (hg : Cons σ g) {i : Nat} {v : AV} (hv : ∀ E, VRel σ E v (σ i)) : Cons σ (Hx.T.set (i + 1) g i (some v)) := fun j u hj E => by
  rw [Hx.T.get_set1] at hj
  split at hj
  · rename_i e
    cases hj
    rw [e]; exact hv E
  · exact hg j u hj E
theorem lift_ok (hT : Ok0 A T) (hch : ChOk σ cx.ch) : Ok σ (lift cx.ch A) (LiftT σ T) where
  both a b h := by
    obtain ⟨g, hg, h⟩ := h
    obtain ⟨h1, h2⟩ := hT.both _ _ h
    exact ⟨⟨g, hg, h1⟩, ⟨g, hg, h2⟩⟩
  fail n h := by
    obtain ⟨g, hg, h⟩ := h
    exact hT.fail _ h
  split i k h := by
    obtain ⟨g, hg, h⟩ := h
    have h : T (match g.get i with
      | some v => k v g
      | none => match cx.ch g i with
        | some l => allOf A (fun v => Hx.T.put (i + 1) g i (some v) fun g => k v g) l
        | none => A.fail 130) := h
    split at h
    · rename_i v hv
      exact ⟨v, hg i v hv, g, hg, h⟩
    · split at h
      · rename_i l hl
        obtain ⟨v, hvl, hv⟩ := hch g i l hg hl
        exact ⟨v, hv, _, hg.put hv, allOf_sound hT h v hvl⟩
      · exact (hT.fail _ h).elim
theorem eachH_sound {R : Type} {A : Ans R} {T : R → Prop} (hT : Ok σ A T) {fail : R} (hf : ¬ T fail) {k : AV → Heap → R} : ∀ {l : List (AV × Heap)}, T (eachH A fail k l) → ∀ x ∈ l, T (k x.1 x.2)
  | [], _, v, hv => by simp at hv
  | [x], h, v, hv => by rw [List.mem_singleton.1 hv]; exact h
  | x :: y :: l, h, v, hv => by
    obtain ⟨h1, h2⟩ := hT.both _ _ h
    rcases List.mem_cons.1 hv with rfl | hv
    · exact h1
    · exact eachH_sound hT hf h2 v hv
end

/-! ### Heaps alike -/
theorem optAV : ∀ {v v' : Option AV}, (match v, v' with
    | none, none => true
    | some x, some y => AV.same x y
    | _, _ => false) = true → v = v'
  | none, none, _ => rfl
  | none, some _, h => by simp at h
  | some _, none, h => by simp at h
  | some x, some y, h => by rw [AV.same_eq (a := x) (b := y) h]
theorem T.same_eq : ∀ {a b : T AV}, T.same a b = true → a = b
  | .nil, .nil, _ => rfl
  | .nil, .nd _ _ _ _ _, h => by simp [T.same] at h
  | .nd _ _ _ _ _, .nil, h => by simp [T.same] at h
  | .nd v a b c d, .nd v' a' b' c' d', h => by
    simp only [T.same, Bool.and_eq_true] at h
    obtain ⟨⟨⟨⟨h0, h1⟩, h2⟩, h3⟩, h4⟩ := h
    rw [optAV h0, T.same_eq h1, T.same_eq h2, T.same_eq h3, T.same_eq h4]
theorem entriesSame_eq : ∀ {a b : List (AV × AV × Nat)}, entriesSame a b = true → a = b
  | [], [], _ => rfl
  | [], _ :: _, h => by simp [entriesSame] at h
  | _ :: _, [], h => by simp [entriesSame] at h
  | (k, v, b) :: es, (k', v', b') :: es', h => by
    simp only [entriesSame, Bool.and_eq_true] at h
    obtain ⟨⟨⟨h0, h1⟩, h2⟩, h3⟩ := h
    rw [AV.same_eq h0, AV.same_eq h1, Nat.eq_of_beq_eq_true h2, entriesSame_eq h3]
theorem optN : ∀ {v v' : Option Nat}, (match v, v' with
    | none, none => true
    | some x, some y => Nat.beq x y
    | _, _ => false) = true → v = v'
  | none, none, _ => rfl
  | none, some _, h => by simp at h
  | some _, none, h => by simp at h
  | some x, some y, h => by rw [Nat.eq_of_beq_eq_true (n := x) (m := y) h]
theorem AO.same_eq {a b : AO} (h : AO.same a b = true) : a = b := by
  cases a <;> cases b <;> simp only [AO.same, Bool.and_eq_true, Bool.false_eq_true] at h
  · rw [T.same_eq h.1.1, Nat.eq_of_beq_eq_true h.1.2, beqB h.2]
  · rw [entriesSame_eq h.1, Nat.eq_of_beq_eq_true h.2]
  · rw [lbeq_eq.1 h.1, Nat.eq_of_beq_eq_true h.2]
  · obtain ⟨⟨⟨h0, h1⟩, h2⟩, h3⟩ := h
    rw [optN h0, Nat.eq_of_beq_eq_true h1, lbeq_eq.1 h2, Nat.eq_of_beq_eq_true h3]
theorem optAO : ∀ {v v' : Option AO}, (match v, v' with
    | none, none => true
    | some x, some y => AO.same x y
    | _, _ => false) = true → v = v'
  | none, none, _ => rfl
  | none, some _, h => by simp at h
  | some _, none, h => by simp at h
  | some x, some y, h => by rw [AO.same_eq (a := x) (b := y) h]
theorem getP_isNone : ∀ {t : T AO}, T.isNone t = true → ∀ p, t.getP p = none
  | .nil, _, p => rfl
  | .nd none a b c d, h, p => by
    simp only [T.isNone, Bool.and_eq_true] at h
    obtain ⟨⟨⟨h1, h2⟩, h3⟩, h4⟩ := h
    cases p with
    | e => rfl
    | a p => exact getP_isNone h1 p
    | b p => exact getP_isNone h2 p
    | c p => exact getP_isNone h3 p
    | d p => exact getP_isNone h4 p
  | .nd (some _) _ _ _ _, h, _ => by simp [T.isNone] at h
theorem getP_sameA : ∀ {t t' : T AO}, T.sameA t t' = true → ∀ p, t.getP p = t'.getP p
  | .nil, t', h, p => by
    have h : T.isNone t' = true := by cases t' <;> exact h
    rw [getP_isNone h]; rfl
  | .nd v a b c d, .nd v' a' b' c' d', h, p => by
    simp only [T.sameA, Bool.and_eq_true] at h
    obtain ⟨⟨⟨⟨h0, h1⟩, h2⟩, h3⟩, h4⟩ := h
    have hv := optAO h0
    cases p with
    | e => exact hv
    | a p => exact getP_sameA h1 p
    | b p => exact getP_sameA h2 p
    | c p => exact getP_sameA h3 p
    | d p => exact getP_sameA h4 p
  | .nd (some _) _ _ _ _, .nil, h, _ => by simp [T.sameA] at h
  | .nd none a b c d, .nil, h, p => by
    have h : T.isNone (.nd none a b c d) = true := h
    rw [getP_isNone h]; rfl
theorem get_sameA {t t' : T AO} (h : T.sameA t t' = true) : t.get = t'.get := by
  funext n
  exact getP_sameA h _
theorem maxNext_ge : ∀ (l : List Out) (n : Nat), n ≤ maxNext n l ∧ ∀ y ∈ l, y.2.1.next ≤ maxNext n l
  | [], n => ⟨Nat.le_refl _, fun y hy => by simp at hy⟩
  | y :: l, n => by
    obtain ⟨h1, h2⟩ := maxNext_ge l (Nat.max n y.2.1.next)
    have e : maxNext n (y :: l) = maxNext (Nat.max n y.2.1.next) l := rfl
    rw [e]
    refine ⟨Nat.le_trans (Nat.le_max_left _ _) h1, fun z hz => ?_⟩
    rcases List.mem_cons.1 hz with rfl | hz
    · exact Nat.le_trans (Nat.le_max_right _ _) h1
    · exact h2 z hz
theorem sameAll_spec {x : Out} : ∀ {l : List Out}, sameAll x l = true → ∀ y ∈ l, x.1 = y.1 ∧ x.2.1.objs.get = y.2.1.objs.get ∧ x.2.2 = y.2.2
  | [], _, y, hy => by simp at hy
  | z :: l, h, y, hy => by
    simp only [sameAll, Bool.and_eq_true] at h
    obtain ⟨⟨⟨h1, h2⟩, h3⟩, h4⟩ := h
    rcases List.mem_cons.1 hy with rfl | hy
    · exact ⟨AV.same_eq h1, get_sameA h2, T.same_eq h3⟩
    · exact sameAll_spec h4 y hy
/-- Each outcome is among the merged ones, but for the numbers. -/
theorem merge_spec {l : List Out} : ∀ y ∈ l, ∃ x ∈ merge l, x.1 = y.1 ∧ x.2.1.objs.get = y.2.1.objs.get ∧ x.2.2 = y.2.2 ∧ y.2.1.next ≤ x.2.1.next := fun y hy => by
  cases l with
  | nil => simp at hy
  | cons x xs =>
    have e : merge (x :: xs) = if sameAll x xs then force (maxNext x.2.1.next xs) fun n => [(x.1, ⟨n, x.2.1.objs⟩, x.2.2)] else x :: xs := rfl
    rw [e]
    split
    · rename_i hs
      rw [force_eq]
      refine ⟨_, List.mem_singleton.2 rfl, ?_⟩
      obtain ⟨h1, h2⟩ := maxNext_ge xs x.2.1.next
      rcases List.mem_cons.1 hy with rfl | hy
      · exact ⟨rfl, rfl, rfl, h1⟩
      · obtain ⟨e1, e2, e3⟩ := sameAll_spec hs y hy
        exact ⟨e1, e2, e3, h2 y hy⟩
    · exact ⟨y, hy, rfl, rfl, rfl, Nat.le_refl _⟩
theorem dropIts_sound {R : Type} {all : Bool} {keep : List Nat} : ∀ (n : Nat) (objs : T AO) (id : Nat) (k : T AO → R), ∃ objs', dropIts objs all keep id n k = k objs' ∧ ∀ i o, objs'.get i = some o → objs.get i = some o
  | 0, objs, id, k => ⟨objs, rfl, fun _ _ h => h⟩
  | n + 1, objs, id, k => by
    have del : ∀ i o, (T.set (id + 1) objs id none).get i = some o → objs.get i = some o := fun i o h => by
      rw [T.get_set1] at h
      split at h
      · cases h
      · exact h
    have e : dropIts objs all keep id (n + 1) k = if all && !memN id keep then force (id + 1) (fun i => dropIts (T.set (id + 1) objs id none) all keep i n k) else match objs.get id with
      | some (.miter _ _ _ _) => force (id + 1) (fun i => dropIts (T.set (id + 1) objs id none) all keep i n k)
      | some (.siter _ _) => force (id + 1) (fun i => dropIts (T.set (id + 1) objs id none) all keep i n k)
      | _ => force (id + 1) fun i => dropIts objs all keep i n k := rfl
    rw [e]
    have h1 : ∃ objs', force (id + 1) (fun i => dropIts (T.set (id + 1) objs id none) all keep i n k) = k objs' ∧ ∀ i o, objs'.get i = some o → objs.get i = some o := by
      rw [force_eq]
      obtain ⟨o', h1, h2⟩ := dropIts_sound n (T.set (id + 1) objs id none) (id + 1) k
      exact ⟨o', h1, fun i o h => del i o (h2 i o h)⟩
    have h2 : ∃ objs', force (id + 1) (fun i => dropIts objs all keep i n k) = k objs' ∧ ∀ i o, objs'.get i = some o → objs.get i = some o := by
      rw [force_eq]; exact dropIts_sound n objs (id + 1) k
    split
    · exact h1
    · split
      · exact h1
      · exact h1
      · exact h2

/-! ### The functions -/
def FnsOk (P : Program) (fns : T MFunc) : Prop := ∀ f fn, fns.get f = some fn → ∃ F mask, P.funcs[f]? = some F ∧ cFunc P mask F = some fn
/-- What is asked of the functions that are taken by what is proved of them. -/
def PrimOk (P : Program) (σ : Nat → Value) (B : Nat) (gm : Nat → Nat → Option AV) (prim : Nat → Option (List AV → Heap → List (AV × Heap))) : Prop :=
  ∀ f p, prim f = some p → ∀ args vs h E w, VRels σ E args vs.toList → HR σ B gm E h w → p args h ≠ [] →
    Enters P f vs w fun u w' => ∃ x ∈ p args h, ∃ E', VRel σ E' x.1 u ∧ HR σ B gm E' x.2 w' ∧ Tr B E h.objs.get h.next w E' x.2.objs.get x.2.next w'
theorem callN_sound (hm : P.follows .mixedOrders = true) (hn : NamesOk P) (hσ : OneOpq σ) (hb : GmB B cx.gm) (ho : OtOk P σ cx.ot) (hch : ChOk σ cx.ch) (hfns : FnsOk P cx.fns) (hprim : PrimOk P σ B cx.gm cx.prim) :
    ∀ (fuel : Nat) (R : Type) (A : Ans0 R) (T : R → Prop), Ok0 A T → CallOk P σ B cx.gm (LiftT σ T) (callN cx fuel R A) := by
  intro fuel
  induction fuel with
  | zero =>
    intro R A T hT f args vs h E w k _ _ hk
    obtain ⟨g, _, hk⟩ := hk
    exact (hT.fail _ hk).elim
  | succ fuel ih =>
    intro R A T hT f args vs h E w k hv H hk
    have hok := lift_ok (cx := cx) hT hch
    have hk : LiftT σ T (match cx.prim f with
      | some p => settle (lift cx.ch A) (1000 + f) (fun args => p args h) (eachH (lift cx.ch A) (fun _ => A.fail (1000 + f)) k) 8 args
      | none => match cx.fns.get f with
        | some fn => if fn.many || cx.lets f then fun g =>
            match callBody (lift cx.ch collect) cx (callN cx fuel _ collect) fn args h (fun r h' g' => dropIts h'.objs (cx.lets f) (resIds r) h.next (h'.next - h.next) fun objs => some [(r, ⟨h'.next, objs⟩, g')]) g with
            | some l => each3 A k (merge l)
            | none => A.fail 117
          else callBody (lift cx.ch A) cx (callN cx fuel R A) fn args h k
        | none => fun _ => A.fail (2000 + f)) := hk
    split at hk
    · rename_i p hp
      obtain ⟨args', hv', hne, hk⟩ := settle_sound hok _ _ hv hk
      refine (hprim f p hp args' vs h E w hv' H hne).mono fun u w' ⟨x, hx, E', h1, h2, h3⟩ => ?_
      exact ⟨x.1, E', x.2, h1, h2, h3, eachH_sound hok (fun ⟨_, _, h⟩ => hT.fail _ h) hk x hx⟩
    · split at hk
      · rename_i fn hfn
        obtain ⟨F, mask, hF, hc⟩ := hfns f fn hfn
        split at hk
        · obtain ⟨g, hg, hk⟩ := hk
          dsimp only at hk
          split at hk
          · rename_i l hl
            have hall := each3_sound hT hk
            let Tc : Option (List Out) → Prop := fun r => ∃ l', r = some l' ∧ ∀ x ∈ l', ∃ n objs, x.2.1.next ≤ n ∧ objs.get = x.2.1.objs.get ∧ T (k x.1 ⟨n, objs⟩ x.2.2)
            have hTc : Ok0 collect Tc := {
              both := fun a b h => by
                obtain ⟨l', h1, h2⟩ := h
                cases a with
                | none => simp [collect] at h1
                | some x => cases b with
                  | none => simp [collect] at h1
                  | some y =>
                    simp only [collect, Option.some.injEq] at h1
                    subst h1
                    exact ⟨⟨x, rfl, fun z hz => h2 z (List.mem_append_left _ hz)⟩, ⟨y, rfl, fun z hz => h2 z (List.mem_append_right _ hz)⟩⟩
              fail := fun n h => by
                obtain ⟨l', h1, _⟩ := h
                simp [collect] at h1 }
            have hbody : LiftT σ Tc (callBody (lift cx.ch collect) cx (callN cx fuel _ collect) fn args h (fun r h' g' => dropIts h'.objs (cx.lets f) (resIds r) h.next (h'.next - h.next) fun objs => some [(r, ⟨h'.next, objs⟩, g')])) := by
              refine ⟨g, hg, l, hl, fun y hy => ?_⟩
              obtain ⟨x, hx, e1, e2, e3, e4⟩ := merge_spec y hy
              exact ⟨x.2.1.next, x.2.1.objs, e4, e2, by rw [← e1, ← e3]; exact hall x hx⟩
            refine (callBody_sound hm hn (lift_ok hTc hch) hσ hb ho (ih _ collect Tc hTc) hF hc hv H hbody).mono fun u w' ⟨r, E', h', q1, q2, q3, g', hg', q4⟩ => ?_
            obtain ⟨objs, d1, d2⟩ := dropIts_sound (R := Option (List Out)) (all := cx.lets f) (keep := resIds r) (h'.next - h.next) h'.objs h.next (fun objs => some [(r, ⟨h'.next, objs⟩, g')])
            dsimp only at q4
            rw [d1] at q4
            obtain ⟨l', e1, e2⟩ := q4
            cases e1
            obtain ⟨n, objs', e3, e4, e5⟩ := e2 _ (List.mem_singleton.2 rfl)
            dsimp only at e3 e4 e5
            refine ⟨r, E', ⟨n, objs'⟩, q1, ⟨?_, fun id hid => q2.fresh id (Nat.le_trans e3 hid), q2.size, q2.gm⟩, ⟨q3.keep, Nat.le_trans q3.le e3, q3.size, q3.frame, q3.os, q3.tape, q3.out, q3.new, fun id o hid => ?_⟩, g', hg', e5⟩
            · show HObj σ B E' objs'.get w'
              rw [e4]
              exact q2.obj.sub d2
            · have hid : objs.get id = some o := by rw [← e4]; exact hid
              exact q3.dom id o (d2 id o hid)
          · exact (hT.fail _ hk).elim
        · exact callBody_sound hm hn hok hσ hb ho (ih R A T hT) hF hc hv H hk
      · obtain ⟨_, _, hk⟩ := hk
        exact (hT.fail _ hk).elim
theorem ansB_ok : Ok0 ansB (· = true) where
  both a b h := by simpa [ansB] using h
  fail n h := by simp [ansB] at h
/-- What the executor answers is so: the call comes back with 'true'. -/
theorem run_sound (hm : P.follows .mixedOrders = true) (hn : NamesOk P) (hσ : OneOpq σ) (hb : GmB B cx.gm) (ho : OtOk P σ cx.ot) (hch : ChOk σ cx.ch) (hfns : FnsOk P cx.fns) (hprim : PrimOk P σ B cx.gm cx.prim)
    {fuel : Nat} {f : FuncId} {args : List AV} {vs : Array Value} {h : Heap} (hv : VRels σ E args vs.toList) (H : HR σ B cx.gm E h w) (hk : callN cx fuel Bool ansB f args h isTrue .nil = true) :
    Enters P f vs w fun u w' => u = .bool true ∧ ∃ E' h', HR σ B cx.gm E' h' w' ∧ Tr B E h.objs.get h.next w E' h'.objs.get h'.next w' := by
  have hk : LiftT σ (· = true) (callN cx fuel Bool ansB f args h isTrue) := ⟨.nil, (fun i v hi => by rw [T.get_nil] at hi; cases hi), hk⟩
  refine (callN_sound hm hn hσ hb ho hch hfns hprim fuel Bool ansB (· = true) ansB_ok f args vs h E w isTrue hv H hk).mono fun u w' ⟨r, E', h', h1, h2, h3, g, _, h4⟩ => ?_
  refine ⟨?_, E', h', h2, h3⟩
  cases r <;> simp [isTrue] at h4
  subst h4
  cases h1
  rfl
end Go.Hx
/- The functions that the executor takes by what the model's entries say: two of Go's own on texts. -/
namespace Go.Hx
open Go
variable {σ : Nat → Value} {B : Nat} {E : Emb} {w : World} {P : Program} {gm : Nat → Nat → Option AV}

theorem idxFrom_eq (c : UInt8) : ∀ (l : List UInt8) (i : Nat), idxFrom c.toNat (l.map UInt8.toNat) i = if Lib.indexByte l c = -1 then -1 else (i : Int) + Lib.indexByte l c
  | [], i => rfl
  | b :: l, i => by
    have ih := idxFrom_eq c l (i + 1)
    have hge := Lib.indexByte_ge l c
    have e : idxFrom c.toNat ((b :: l).map UInt8.toNat) i = if Nat.beq b.toNat c.toNat then .ofNat i else idxFrom c.toNat (l.map UInt8.toNat) (i + 1) := rfl
    rw [e]
    have hb : Nat.beq b.toNat c.toNat = (b == c) := by
      by_cases h : b = c
      · subst h; simp
      · have : b.toNat ≠ c.toNat := fun h' => h (UInt8.toNat_inj.1 h')
        have e1 : Nat.beq b.toNat c.toNat = false := by
          cases h2 : Nat.beq b.toNat c.toNat with
          | false => rfl
          | true => exact absurd (Nat.eq_of_beq_eq_true h2) this
        rw [e1]; simp [h]
    rw [hb]
    unfold Lib.indexByte
    by_cases h : (b == c) = true
    · simp [h]
    · have h : (b == c) = false := by simpa using h
      simp only [h, Bool.false_eq_true, if_false, ih]
      by_cases h2 : Lib.indexByte l c = -1
      · simp [h2]
      · have h3 : (Lib.indexByte l c == -1) = false := by simpa using h2
        simp only [h2, h3, if_false, Bool.false_eq_true]
        rw [if_neg (by omega)]
        omega
theorem countN_eq (c : UInt8) : ∀ (l : List UInt8) (n : Nat), countN c.toNat (l.map UInt8.toNat) n = n + Lib.countByte l c
  | [], n => by simp [countN, Lib.countByte]
  | b :: l, n => by
    have e : countN c.toNat ((b :: l).map UInt8.toNat) n = if Nat.beq b.toNat c.toNat then countN c.toNat (l.map UInt8.toNat) (n + 1) else countN c.toNat (l.map UInt8.toNat) n := rfl
    rw [e, countN_eq c l, countN_eq c l]
    unfold Lib.countByte
    rw [List.count_cons]
    by_cases h : b = c
    · subst h; simp; omega
    · have : b.toNat ≠ c.toNat := fun h' => h (UInt8.toNat_inj.1 h')
      have e1 : Nat.beq b.toNat c.toNat = false := by
        cases h2 : Nat.beq b.toNat c.toNat with
        | false => rfl
        | true => exact absurd (Nat.eq_of_beq_eq_true h2) this
      simp [e1, h]
/-- Is this number a body-less function of the program, with this entry? -/
structure IsExtern (P : Program) (f : FuncId) (e : Array Value → Sem Value) : Prop where
  run : ∀ args w, (callFunc f args).run P w = (do Pure.pure (.value (← e args)) : Sem Next).run P w
theorem back_value {h : Heap} (H : HR σ B gm E h w) {f : FuncId} {vs : Array Value} {u : Value} (hr : (callFunc f vs).run P w = .ok (.value u) w) {r : AV} (hv : VRel σ E r u) {l : List (AV × Heap)} (hm : (r, h) ∈ l) :
    Enters P f vs w fun u w' => ∃ x ∈ l, ∃ E', VRel σ E' x.1 u ∧ HR σ B gm E' x.2 w' ∧ Tr B E h.objs.get h.next w E' x.2.objs.get x.2.next w' :=
  .inr ⟨u, w, hr, (r, h), hm, E, hv, H, Tr.refl _ _ _ _ H.fresh⟩
theorem str_byte {vs : Array Value} {s : List Nat} {c : Nat} (hv : VRels σ E [.str s, .int .u8 (.ofNat c)] vs.toList) : ∃ b : ByteArray, vs = #[.string b, .int .u8 (.ofNat c)] ∧ b.data.toList.map UInt8.toNat = s := by
  generalize hl : vs.toList = l at hv
  cases hv with
  | cons _ u _ us h hs =>
    cases h with
    | str _ b hb =>
      cases hs with
      | cons _ u2 _ us2 h2 hs2 =>
        cases h2
        cases hs2
        exact ⟨b, by cases vs; simp at hl; rw [hl]; rfl, hb⟩
theorem prim_index {f : FuncId} (he : IsExtern P f Extern.BytealgIndexByte.indexByte) : ∀ args vs h E w, VRels σ E args vs.toList → HR σ B gm E h w → pIndexByte args h ≠ [] →
    Enters P f vs w fun u w' => ∃ x ∈ pIndexByte args h, ∃ E', VRel σ E' x.1 u ∧ HR σ B gm E' x.2 w' ∧ Tr B E h.objs.get h.next w E' x.2.objs.get x.2.next w' := by
  intro args vs h E w hv H hne
  have key : ∃ s c, args = [.str s, .int .u8 (.ofNat c)] ∧ Nat.blt c 256 = true := by
    unfold pIndexByte at hne
    split at hne
    · split at hne
      · rename_i hc
        exact ⟨_, _, rfl, hc⟩
      · exact absurd rfl hne
    · exact absurd rfl hne
  obtain ⟨s, c, rfl, hc⟩ := key
  have hp : pIndexByte [.str s, .int .u8 (.ofNat c)] h = [(.int .i64 (idxFrom c s 0), h)] := by
    show (if Nat.blt c 256 then _ else _) = _
    rw [if_pos hc]
  rw [hp]
  have hc256 : c < 256 := Nat.le_of_ble_eq_true hc
  obtain ⟨b, rfl, hb⟩ := str_byte hv
  refine back_value H (u := .int .i64 (Lib.indexByte b.data.toList (c.toUInt8))) ?_ (r := .int .i64 (idxFrom c s 0)) ?_ (List.mem_singleton.2 rfl)
  · rw [he.run]
    simp only [Sem.run_bind]
    rw [Lib.run_indexByteString]
    rfl
  · have ec : (c.toUInt8).toNat = c := by simp; omega
    have := idxFrom_eq (c.toUInt8) b.data.toList 0
    rw [ec, hb] at this
    rw [this]
    have hge := Lib.indexByte_ge b.data.toList c.toUInt8
    by_cases h1 : Lib.indexByte b.data.toList c.toUInt8 = -1
    · rw [if_pos h1, h1]; exact .int _ _
    · rw [if_neg h1]
      have e : ((0 : Nat) : Int) + Lib.indexByte b.data.toList c.toUInt8 = Lib.indexByte b.data.toList c.toUInt8 := by omega
      rw [e]; exact .int _ _
theorem prim_count {f : FuncId} (he : IsExtern P f Extern.BytealgCount.count) : ∀ args vs h E w, VRels σ E args vs.toList → HR σ B gm E h w → pCount args h ≠ [] →
    Enters P f vs w fun u w' => ∃ x ∈ pCount args h, ∃ E', VRel σ E' x.1 u ∧ HR σ B gm E' x.2 w' ∧ Tr B E h.objs.get h.next w E' x.2.objs.get x.2.next w' := by
  intro args vs h E w hv H hne
  have key : ∃ s c, args = [.str s, .int .u8 (.ofNat c)] ∧ Nat.blt c 256 = true := by
    unfold pCount at hne
    split at hne
    · split at hne
      · rename_i hc
        exact ⟨_, _, rfl, hc⟩
      · exact absurd rfl hne
    · exact absurd rfl hne
  obtain ⟨s, c, rfl, hc⟩ := key
  have hp : pCount [.str s, .int .u8 (.ofNat c)] h = [(.int .i64 (.ofNat (countN c s 0)), h)] := by
    show (if Nat.blt c 256 then _ else _) = _
    rw [if_pos hc]
  rw [hp]
  have hc256 : c < 256 := Nat.le_of_ble_eq_true hc
  obtain ⟨b, rfl, hb⟩ := str_byte hv
  refine back_value H (u := .int .i64 (Lib.countByte b.data.toList (c.toUInt8))) ?_ (r := .int .i64 (.ofNat (countN c s 0))) ?_ (List.mem_singleton.2 rfl)
  · rw [he.run]
    simp only [Sem.run_bind]
    rw [Lib.run_countString]
    rfl
  · have ec : (c.toUInt8).toNat = c := by simp; omega
    have := countN_eq (c.toUInt8) b.data.toList 0
    rw [ec, hb] at this
    rw [this]
    simp only [Nat.zero_add]
    exact .int _ _
end Go.Hx
