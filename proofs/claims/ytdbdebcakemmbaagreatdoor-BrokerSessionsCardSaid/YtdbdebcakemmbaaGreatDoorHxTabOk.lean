/- The table of the functions is the program's. -/
import Derived.Test.YtdbdebcakemmbaaGreatDoorHxCalls
import Derived.Below
import Derived.Shelf.Unicode.DecodeSlow
namespace Go.Hx
open Go
theorem fnsFrom_cons (P : Program) (f : Func) (l : List Func) (ms : List Nat) (i : Nat) (t : T MFunc) : fnsFrom P (f :: l) ms i t = fnsFrom P l ms.tail (i + 1) (T.set 0 t i (cFunc P (ms.headD 0) f)) := by
  cases ms with
  | nil =>
    show force (Nat.add i 1) (fun j => fnsFrom P l [] j (T.set 0 t i (cFunc P 0 f))) = _
    rw [force_eq]; rfl
  | cons m ms =>
    show force (Nat.add i 1) (fun j => fnsFrom P l ms j (T.set 0 t i (cFunc P m f))) = _
    rw [force_eq]; rfl
theorem fnsFrom_get (P : Program) : ∀ (l : List Func) (ms : List Nat) (i : Nat) (t : T MFunc) (f : Nat), (fnsFrom P l ms i t).get f = if i ≤ f ∧ f < i + l.length then (l[f - i]?).bind (fun F => cFunc P (ms.getD (f - i) 0) F) else t.get f
  | [], ms, i, t, f => by
    show t.get f = _
    rw [if_neg (by simp)]
  | F :: l, ms, i, t, f => by
    rw [fnsFrom_cons, fnsFrom_get P l]
    simp only [List.length_cons]
    have hset : ∀ a : Option MFunc, (T.set 0 t i a).get f = if f = i then a else t.get f := fun a => by
      have : T.set 0 t i a = T.set (i + 1) t i a := rfl
      rw [this, T.get_set1]
    by_cases h1 : i + 1 ≤ f ∧ f < i + 1 + l.length
    · rw [if_pos h1, if_pos (by omega)]
      have e : f - i = (f - (i + 1)) + 1 := by omega
      rw [e, List.getElem?_cons_succ]
      congr 1
      funext F
      congr 1
      cases ms <;> simp
    · rw [if_neg h1, hset]
      by_cases h2 : f = i
      · subst h2
        rw [if_pos rfl, if_pos (by omega)]
        simp
        cases ms <;> rfl
      · rw [if_neg h2, if_neg (by omega)]
theorem fnsOf_ok (P : Program) (masks : List Nat) : FnsOk P (fnsOf P masks) := fun f fn h => by
  unfold fnsOf at h
  rw [fnsFrom_get] at h
  split at h
  · cases hl : P.funcs.toList[f - 0]? with
    | none => rw [hl] at h; cases h
    | some F =>
      rw [hl] at h
      exact ⟨F, _, by simpa using hl, h⟩
  · rw [T.get_nil] at h; cases h
theorem names_ok {P : Program} (h : (P.funcs.all fun F => F.name != "runtime.NumGoroutine") = true) : NamesOk P := fun f F hf he => by
  have := Array.all_eq_true_iff_forall_mem.1 h F (Array.mem_of_getElem? hf)
  rw [he] at this
  simp at this
end Go.Hx
/- Rules for opaque numbers: what an operation on such yields, as another opaque one. -/
namespace Go.Hx
open Go
structure Rule where
  op : BinOp
  a : AV
  b : AV
  j : Nat
structure CRule where
  k : IntKind
  a : AV
  j : Nat
def lookR : List Rule → BinOp → AV → AV → Option AV
  | [], _, _, _ => none
  | r :: rs, op, a, b => if Nat.beq r.op.ctorIdx op.ctorIdx && AV.same r.a a && AV.same r.b b then some (.opq r.j) else lookR rs op a b
def lookC : List CRule → IntKind → AV → Option AV
  | [], _, _ => none
  | r :: rs, k, a => if kbeq r.k k && AV.same r.a a then some (.opq r.j) else lookC rs k a
def otOf (rs : List Rule) (cs : List CRule) : MOp → List AV → Option AV
  | .bin op, [a, b] => lookR rs op a b
  | .conv k, [a] => lookC cs k a
  | _, _ => none
/-- The number that a value is. -/
def ival (σ : Nat → Value) : AV → Option (IntKind × Int)
  | .int k n => some (k, n)
  | .opq i => match σ i with
    | .int k n => some (k, n)
    | _ => none
  | _ => none
def outV : AV → Option Value
  | .int k n => some (.int k n)
  | .bool b => some (.bool b)
  | _ => none
def RuleOk (σ : Nat → Value) (r : Rule) : Prop := ∃ k x k' y v, ival σ r.a = some (k, x) ∧ ival σ r.b = some (k', y) ∧ sBin r.op [.int k x, .int k' y] = some v ∧ outV v = some (σ r.j)
def CRuleOk (σ : Nat → Value) (r : CRule) : Prop := ∃ k x, ival σ r.a = some (k, x) ∧ σ r.j = .int r.k (wrapF r.k x)
variable {σ : Nat → Value} {P : Program} {E : Emb}
theorem ival_rel {a : AV} {k : IntKind} {x : Int} (h : ival σ a = some (k, x)) {u : Value} (hu : VRel σ E a u) : u = .int k x := by
  cases a <;> simp only [ival] at h <;> try cases h
  · cases hu; rfl
  · cases hu
    split at h
    · rename_i he
      cases h
      exact he
    · cases h
theorem outV_rel {v : AV} {u z : Value} (h : outV v = some z) (hu : VRel σ E v u) : u = z := by
  cases v <;> simp only [outV] at h <;> cases h <;> cases hu <;> rfl
theorem binop_ctor {a b : BinOp} (h : Nat.beq a.ctorIdx b.ctorIdx = true) : a = b := by cases a <;> cases b <;> first | rfl | (revert h; decide)
theorem lookR_spec {op : BinOp} {a b r : AV} : ∀ {rs : List Rule}, lookR rs op a b = some r → ∃ x ∈ rs, x.op = op ∧ x.a = a ∧ x.b = b ∧ r = .opq x.j
  | [], h => by cases h
  | x :: rs, h => by
    simp only [lookR] at h
    split at h
    · rename_i hc
      simp only [Bool.and_eq_true] at hc
      cases h
      exact ⟨x, List.mem_cons_self, binop_ctor hc.1.1, AV.same_eq hc.1.2, AV.same_eq hc.2, rfl⟩
    · obtain ⟨y, hy, h⟩ := lookR_spec h
      exact ⟨y, List.mem_cons_of_mem _ hy, h⟩
theorem lookC_spec {k : IntKind} {a r : AV} : ∀ {rs : List CRule}, lookC rs k a = some r → ∃ x ∈ rs, x.k = k ∧ x.a = a ∧ r = .opq x.j
  | [], h => by cases h
  | x :: rs, h => by
    simp only [lookC] at h
    split at h
    · rename_i hc
      simp only [Bool.and_eq_true] at hc
      cases h
      exact ⟨x, List.mem_cons_self, kbeq_eq hc.1, AV.same_eq hc.2, rfl⟩
    · obtain ⟨y, hy, h⟩ := lookC_spec h
      exact ⟨y, List.mem_cons_of_mem _ hy, h⟩
theorem otOf_ok {rs : List Rule} {cs : List CRule} (hr : ∀ r ∈ rs, RuleOk σ r) (hc : ∀ r ∈ cs, CRuleOk σ r) : OtOk P σ (otOf rs cs) where
  bin op vs r h E us hv := by
    have key : ∃ a b, vs = [a, b] ∧ lookR rs op a b = some r := by
      unfold otOf at h
      split at h
      · rename_i op' a b heq
        cases heq
        exact ⟨a, b, rfl, h⟩
      · rename_i heq; cases heq
      · cases h
    obtain ⟨a, b, rfl, hl⟩ := key
    obtain ⟨x, hx, rfl, rfl, rfl, rfl⟩ := lookR_spec hl
    obtain ⟨k, n, k', m, v, h1, h2, h3, h4⟩ := hr x hx
    obtain ⟨u, u', rfl, hu, hu'⟩ := hv.two_inv
    obtain rfl := ival_rel h1 hu
    obtain rfl := ival_rel h2 hu'
    refine ⟨_, _, rfl, fun t xo yo w => ?_⟩
    obtain ⟨z, hz, hzr⟩ := pur_bin (P := P) (σ := σ) (E := E) (w := w) (.cons _ _ _ _ (.int k n) (.cons _ _ _ _ (.int k' m) .nil)) t xo yo v h3
    rw [outV_rel h4 hzr] at hz
    exact ⟨_, hz, .opq _⟩
  un op vs r h := by unfold otOf at h; split at h <;> first | (rename_i heq; cases heq) | cases h
  conv k vs r h E us hv := by
    have key : ∃ a, vs = [a] ∧ lookC cs k a = some r := by
      unfold otOf at h
      split at h
      · rename_i heq; cases heq
      · rename_i k' a heq
        cases heq
        exact ⟨a, rfl, h⟩
      · cases h
    obtain ⟨a, rfl, hl⟩ := key
    obtain ⟨x, hx, rfl, rfl, rfl⟩ := lookC_spec hl
    obtain ⟨k, n, h1, h2⟩ := hc x hx
    obtain ⟨u, rfl, hu⟩ := hv.one_inv
    obtain rfl := ival_rel h1 hu
    refine ⟨_, rfl, fun s d w hd hs => ?_⟩
    obtain ⟨z, hz, hzr⟩ := pur_conv (P := P) (σ := σ) (E := E) (w := w) (.cons _ _ _ _ (.int k n) .nil) hd hs (.int x.k (wrapF x.k n)) rfl
    cases hzr
    exact ⟨_, hz, by rw [← h2]; exact .opq _⟩
  len k vs := by unfold otOf; split <;> first | (rename_i heq; cases heq) | rfl
  min vs := by unfold otOf; split <;> first | (rename_i heq; cases heq) | rfl
  max vs := by unfold otOf; split <;> first | (rename_i heq; cases heq) | rfl
end Go.Hx
/- What the executor answers, as a call in a world. -/
namespace Go.Hx
open Go Go.RowKit
variable {σ : Nat → Value} {P : Program} {cx : Cx} {W : World}
/-- Nothing is known of the heap at first. -/
theorem first_ok {gm : Nat → Nat → Option AV} (hgm : GmOk σ gm W) : HR σ W.heap.size gm (fun _ => none) ⟨0, .nil⟩ W where
  obj := ⟨(fun id o h => by rw [show (T.nil : T AO).get id = none from rfl] at h; cases h), (fun i j o o' x y h => by rw [show (T.nil : T AO).get i = none from rfl] at h; cases h)⟩
  fresh _ _ := rfl
  size := Nat.le_refl _
  gm := hgm
theorem gmB_of {gm : Nat → Nat → Option AV} (hgm : GmOk σ gm W) : GmB W.heap.size gm := fun g off v h => by
  obtain ⟨u, hu, _⟩ := hgm g off v h
  rcases Nat.lt_or_ge g W.heap.size with h' | h'
  · exact h'
  · simp [World.cell?, Array.getElem?_eq_none h'] at hu
/-- The call of a function with a body, its answer 'true', what was there as it was. -/
theorem calls_true (hm : P.follows .mixedOrders = true) (hn : NamesOk P) (hσ : OneOpq σ) (ho : OtOk P σ cx.ot) (hch : ChOk σ cx.ch) (hfns : FnsOk P cx.fns) (hprim : PrimOk P σ W.heap.size cx.gm cx.prim) (hgm : GmOk σ cx.gm W)
    {fuel : Nat} {f : FuncId} {args : List AV} {vs : Array Value} (henter : ∀ w, (callFunc f vs).run P w = .ok (.enter f vs) w) (hv : VRels σ (fun _ => none) args vs.toList)
    (hk : callN cx fuel Bool ansB f args ⟨0, .nil⟩ isTrue .nil = true) : Calls P f vs W fun e w' => e = .returned (.bool true) ∧ Below W.heap.size W w' := by
  rcases run_sound hm hn hσ (gmB_of hgm) ho hch hfns hprim hv (first_ok hgm) hk with ⟨h1, h2⟩ | ⟨u, w', h1, _⟩
  · refine Calls.mono h2 fun e w' ⟨u, he, hu, E', h', HR', tr⟩ => ?_
    subst hu
    exact ⟨he, tr.os, tr.tape, tr.out, tr.size, fun k hk => tr.frame k hk fun id o x hid => by
      rw [show (T.nil : T AO).get id = none from rfl] at hid; cases hid⟩
  · rw [henter] at h1; cases h1
/-- Go's tables of UTF-8. -/
theorem utf_gm {g3 g4 : Nat} (hne : g3 ≠ g4) (h : Lib.Utf8Tabs g3 g4 W) : GmOk σ (utfMem g3 g4) W := fun g off v hv => by
  have hfirst : ∀ c, c < 256 → utfFirst c = Lib.firstT c := by
    intro c hc
    have : ((List.range 256).all fun c => utfFirst c == Lib.firstT c) = true := by decide +kernel
    simpa using List.all_eq_true.1 this c (List.mem_range.2 hc)
  unfold utfMem at hv
  split at hv
  · rename_i e
    have e := Nat.eq_of_beq_eq_true e
    subst e
    split at hv
    · rename_i hlt
      have hlt : off < 256 := Nat.le_of_ble_eq_true hlt
      cases hv
      exact ⟨_, h.1 off hlt, fun E => by rw [hfirst off hlt]; exact .int _ _⟩
    · cases hv
  · split at hv
    · rename_i e
      have e := Nat.eq_of_beq_eq_true e
      subst e
      split at hv
      · rename_i n hn
        cases hv
        have hlt : off < 32 := by
          rcases Nat.lt_or_ge off 32 with h' | h'
          · exact h'
          · rw [List.getElem?_eq_none (by simpa [acceptR] using h')] at hn; cases hn
        have hval : ∀ off, off < 32 → acceptR[off]? = some (if off % 2 = 0 then Lib.accLo (off / 2) else Lib.accHi (off / 2)) := by
          intro c hc
          have : ((List.range 32).all fun off => acceptR[off]? == some (if off % 2 = 0 then Lib.accLo (off / 2) else Lib.accHi (off / 2))) = true := by decide +kernel
          simpa using List.all_eq_true.1 this c (List.mem_range.2 hc)
        rw [hval off hlt] at hn
        have hn := Option.some.inj hn
        obtain ⟨c0, c1⟩ := h.2 (off / 2) (by omega)
        by_cases hp : off % 2 = 0
        · rw [if_pos hp] at hn
          have e2 : 2 * (off / 2) = off := by omega
          rw [e2] at c0
          exact ⟨_, c0, fun E => by rw [← hn]; exact .int _ _⟩
        · rw [if_neg hp] at hn
          have e2 : 2 * (off / 2) + 1 = off := by omega
          rw [e2] at c1
          exact ⟨_, c1, fun E => by rw [← hn]; exact .int _ _⟩
      · cases hv
    · cases hv
end Go.Hx
