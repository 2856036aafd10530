/- One operation: those that look at no memory. -/
import Derived.Test.YtdbdebcakemmbaaGreatDoorHxPure
import Derived.Laws.StructEq
namespace Go.Hx
open Go
variable {σ : Nat → Value} {B : Nat} {E E' : Emb} {g : Nat → Option AO} {w w' : World} {nid : Nat} {P : Program} {ot : MOp → List AV → Option AV} {gm : Nat → Nat → Option AV}

/-- What is known of opaque values holds. -/
structure OtOk (P : Program) (σ : Nat → Value) (ot : MOp → List AV → Option AV) : Prop where
  bin : ∀ op vs r, ot (.bin op) vs = some r → ∀ E us, VRels σ E vs us → ∃ x y, us = [x, y] ∧ ∀ t xo yo w, ∃ u, (do eqGuard op t xo yo x y; binOp op t x y : Sem Value).run P w = .ok u w ∧ VRel σ E r u
  un : ∀ op vs r, ot (.un op) vs = some r → ∀ E us, VRels σ E vs us → ∃ x, us = [x] ∧ ∀ w, ∃ u, (Op.unary op x).run P w = .ok u w ∧ VRel σ E r u
  conv : ∀ k vs r, ot (.conv k) vs = some r → ∀ E us, VRels σ E vs us → ∃ x, us = [x] ∧ ∀ s d w, P.underlying d = some (.int k) → (∃ j, P.underlying s = some (.int j)) → ∃ u, (convert s d x).run P w = .ok u w ∧ VRel σ E r u
  len : ∀ k vs, ot (.len k) vs = none
  min : ∀ vs, ot .min vs = none
  max : ∀ vs, ot .max vs = none
theorem noOt_ok (P : Program) (σ : Nat → Value) : OtOk P σ noOt :=
  ⟨by intros; contradiction, by intros; contradiction, by intros; contradiction, fun _ _ => rfl, fun _ => rfl, fun _ => rfl⟩

/-- Pure: the value, the world as it was. -/
def Pur (P : Program) (σ : Nat → Value) (E : Emb) (w : World) (v : Option AV) (s : Sem Value) : Prop := ∀ r, v = some r → ∃ u, s.run P w = .ok u w ∧ VRel σ E r u
theorem Pur.does (H : HObj σ B E g w) (hn : E nid = none) {s : Sem Value} {v : Option AV} (hp : Pur P σ E w v s) (h : ones v ≠ []) : Does P σ B E g w nid (ones v) s :=
  Does.pure H hn h fun r hr => let ⟨u, a, b⟩ := hp r hr; ⟨u, w, a, Drew.refl w, b⟩

theorem VRels.nil_inv {us : List Value} (h : VRels σ E [] us) : us = [] := by cases h; rfl
theorem VRels.one_inv {v : AV} {us : List Value} (h : VRels σ E [v] us) : ∃ u, us = [u] ∧ VRel σ E v u := by
  cases h with | cons _ u _ _ hv hs => cases hs; exact ⟨u, rfl, hv⟩
theorem VRels.two_inv {v v' : AV} {us : List Value} (h : VRels σ E [v, v'] us) : ∃ u u', us = [u, u'] ∧ VRel σ E v u ∧ VRel σ E v' u' := by
  cases h with | cons _ u _ _ hv hs => obtain ⟨u', rfl, h'⟩ := hs.one_inv; exact ⟨u, u', rfl, hv, h'⟩
theorem VRels.three_inv {a b c : AV} {us : List Value} (h : VRels σ E [a, b, c] us) : ∃ x y z, us = [x, y, z] ∧ VRel σ E a x ∧ VRel σ E b y ∧ VRel σ E c z := by
  cases h with | cons _ u _ _ hv hs => obtain ⟨u', u'', rfl, h', h''⟩ := hs.two_inv; exact ⟨u, u', u'', rfl, hv, h', h''⟩
theorem VRel.int_inv {k : IntKind} {n : Int} {u : Value} (h : VRel σ E (.int k n) u) : u = .int k n := by cases h; rfl
theorem VRel.bool_inv {b : Bool} {u : Value} (h : VRel σ E (.bool b) u) : u = .bool b := by cases h; rfl
theorem VRel.str_inv {l : List Nat} {u : Value} (h : VRel σ E (.str l) u) : ∃ s, u = .string s ∧ s.data.toList.map UInt8.toNat = l := by cases h with | str _ s h => exact ⟨s, rfl, h⟩
theorem VRel.ptr_inv {id off : Nat} {u : Value} (h : VRel σ E (.ptr id off) u) : ∃ b base size, u = .pointer (some ⟨b, base + off, none⟩) ∧ E id = some (b, base, size) := by
  cases h with | ptr _ _ b base size h => exact ⟨b, base, size, rfl, h⟩
theorem VRel.agg_inv {cs : List AV} {u : Value} (h : VRel σ E (.agg cs) u) : ∃ c, u = .agg c ∧ VRels σ E cs c.toList := by cases h with | agg _ c h => exact ⟨c, rfl, h⟩
theorem VRel.tup_inv {cs : List AV} {u : Value} (h : VRel σ E (.tup cs) u) : ∃ c, u = .tuple c ∧ VRels σ E cs c.toList := by cases h with | tup _ c h => exact ⟨c, rfl, h⟩
theorem VRel.map_inv {id : Nat} {u : Value} (h : VRel σ E (.map id) u) : ∃ b base size, u = .map (some b) ∧ E id = some (b, base, size) := by
  cases h with | map _ b base size h => exact ⟨b, base, size, rfl, h⟩

theorem pur_bin {op : BinOp} {vs : List AV} {x y : Value} (hv : VRels σ E vs [x, y]) (t : TypeId) (xo yo : Operand) :
    Pur P σ E w (sBin op vs) (do eqGuard op t xo yo x y; binOp op t x y) := by
  intro r hr
  unfold sBin at hr
  split at hr
  · rename_i k a k' b
    obtain ⟨u, u', hu, h1, h2⟩ := hv.two_inv
    simp only [List.cons.injEq, and_true] at hu
    obtain ⟨rfl, rfl⟩ := hu
    obtain rfl := h1.int_inv
    obtain rfl := h2.int_inv
    have hg : (eqGuard op t xo yo (.int k a) (.int k' b)).run P w = .ok () w := by unfold eqGuard; split <;> rfl
    simp only [Sem.run_bind, hg, Result.andThen]
    split at hr
    · rename_i hs; exact run_shiftBin hs hr
    · rename_i hs
      split at hr
      · rename_i hk
        obtain rfl := kbeq_eq hk
        exact run_intBin (by simpa using hs) hr
      · cases hr
  · rename_i a b
    obtain ⟨u, u', hu, h1, h2⟩ := hv.two_inv
    simp only [List.cons.injEq, and_true] at hu
    obtain ⟨rfl, rfl⟩ := hu
    obtain ⟨s, rfl, hs⟩ := h1.str_inv
    obtain ⟨s', rfl, hs'⟩ := h2.str_inv
    have hg : (eqGuard op t xo yo (.string s) (.string s')).run P w = .ok () w := by unfold eqGuard; split <;> rfl
    simp only [Sem.run_bind, hg, Result.andThen]
    exact run_strBin hs hs' hr
  · cases hr

theorem does_bin (H : HObj σ B E g w) (hn : E nid = none) (ho : OtOk P σ ot) {op : BinOp} {vs : List AV} {x y : Value} (hv : VRels σ E vs [x, y]) (t : TypeId) (xo yo : Operand)
    (hne : small gm ot (.bin op) g nid vs ≠ []) : Does P σ B E g w nid (small gm ot (.bin op) g nid vs) (do eqGuard op t xo yo x y; binOp op t x y) := by
  have hp := pur_bin (P := P) (w := w) (op := op) hv t xo yo
  simp only [small] at hne ⊢
  cases hs : sBin op vs with
  | some v => rw [hs] at hp; exact Pur.does H hn hp (by simp [ones])
  | none =>
    simp only [hs] at hne ⊢
    refine Pur.does H hn (fun r hr => ?_) hne
    obtain ⟨x', y', e, h⟩ := ho.bin op vs r hr E _ hv
    simp only [List.cons.injEq, and_true] at e
    obtain ⟨rfl, rfl⟩ := e
    exact h t xo yo w

/-! ### Equality -/
theorem eql_bx (neg b : Bool) : VRel σ E (bx neg b) (.bool (if neg then !b else b)) := .bool _
theorem run_equal_bool' {t : TypeId} (ht : P.underlying t = some .bool) (a b : Bool) (w : World) (d : Nat) : (Op.equalIn (d + 1) t (.bool a) (.bool b)).run P w = .ok (a == b) w := by
  simp [Op.equalIn, run_underlying ht]
theorem run_equal_bool {t : TypeId} (ht : P.underlying t = some .bool) (a b : Bool) (w : World) : (Op.equal t (.bool a) (.bool b)).run P w = .ok (a == b) w := run_equal_bool' ht a b w 9999
theorem run_equal_nilp' {t e : TypeId} (ht : P.underlying t = some (.pointer e)) (b : Option Addr) (w : World) (d : Nat) : (Op.equalIn (d + 1) t (.pointer none) (.pointer b)).run P w = .ok b.isNone w := by
  simp [Op.equalIn, run_underlying ht]
theorem run_equal_nilp {t e : TypeId} (ht : P.underlying t = some (.pointer e)) (b : Option Addr) (w : World) : (Op.equal t (.pointer none) (.pointer b)).run P w = .ok b.isNone w := run_equal_nilp' ht b w 9999
theorem run_equal_pnil' {t e : TypeId} (ht : P.underlying t = some (.pointer e)) (b : Addr) (w : World) (d : Nat) : (Op.equalIn (d + 1) t (.pointer (some b)) (.pointer none)).run P w = .ok false w := by
  simp [Op.equalIn, run_underlying ht]
theorem run_equal_pnil {t e : TypeId} (ht : P.underlying t = some (.pointer e)) (b : Addr) (w : World) : (Op.equal t (.pointer (some b)) (.pointer none)).run P w = .ok false w := run_equal_pnil' ht b w 9999
theorem run_equal_nils' {t e : TypeId} (ht : P.underlying t = some (.slice e)) (b : Option Addr) (n c m q : Nat) (w : World) (d : Nat) : (Op.equalIn (d + 1) t (.slice none n c) (.slice b m q)).run P w = .ok b.isNone w := by
  simp [Op.equalIn, run_underlying ht]
theorem run_equal_nils {t e : TypeId} (ht : P.underlying t = some (.slice e)) (b : Option Addr) (n c m q : Nat) (w : World) : (Op.equal t (.slice none n c) (.slice b m q)).run P w = .ok b.isNone w := run_equal_nils' ht b n c m q w 9999
theorem run_equal_snil' {t e : TypeId} (ht : P.underlying t = some (.slice e)) (b : Addr) (n c m q : Nat) (w : World) (d : Nat) : (Op.equalIn (d + 1) t (.slice (some b) n c) (.slice none m q)).run P w = .ok false w := by
  simp [Op.equalIn, run_underlying ht]
theorem run_equal_snil {t e : TypeId} (ht : P.underlying t = some (.slice e)) (b : Addr) (n c m q : Nat) (w : World) : (Op.equal t (.slice (some b) n c) (.slice none m q)).run P w = .ok false w := run_equal_snil' ht b n c m q w 9999
theorem run_equal_nilm' {t k e : TypeId} (ht : P.underlying t = some (.map k e)) (b : Option Nat) (w : World) (d : Nat) : (Op.equalIn (d + 1) t (.map none) (.map b)).run P w = .ok b.isNone w := by
  simp [Op.equalIn, run_underlying ht]
theorem run_equal_nilm {t k e : TypeId} (ht : P.underlying t = some (.map k e)) (b : Option Nat) (w : World) : (Op.equal t (.map none) (.map b)).run P w = .ok b.isNone w := run_equal_nilm' ht b w 9999
theorem run_equal_mnil' {t k e : TypeId} (ht : P.underlying t = some (.map k e)) (b : Nat) (w : World) (d : Nat) : (Op.equalIn (d + 1) t (.map (some b)) (.map none)).run P w = .ok false w := by
  simp [Op.equalIn, run_underlying ht]
theorem run_equal_mnil {t k e : TypeId} (ht : P.underlying t = some (.map k e)) (b : Nat) (w : World) : (Op.equal t (.map (some b)) (.map none)).run P w = .ok false w := run_equal_mnil' ht b w 9999
theorem run_equal_nilf' {t : TypeId} {a b : Array TypeId} {v : Bool} (ht : P.underlying t = some (.func a b v)) (w : World) (d : Nat) : (Op.equalIn (d + 1) t .nilFunc .nilFunc).run P w = .ok true w := by
  simp [Op.equalIn, run_underlying ht]
theorem run_equal_nilf {t : TypeId} {a b : Array TypeId} {v : Bool} (ht : P.underlying t = some (.func a b v)) (w : World) : (Op.equal t .nilFunc .nilFunc).run P w = .ok true w := run_equal_nilf' ht w 9999
theorem run_equal_nilf1' {t : TypeId} {a b : Array TypeId} {v : Bool} (ht : P.underlying t = some (.func a b v)) (f : Fn) (x y : Array Value) (w : World) (d : Nat) : (Op.equalIn (d + 1) t (.func f x y) .nilFunc).run P w = .ok false w := by
  simp [Op.equalIn, run_underlying ht]
theorem run_equal_nilf1 {t : TypeId} {a b : Array TypeId} {v : Bool} (ht : P.underlying t = some (.func a b v)) (f : Fn) (x y : Array Value) (w : World) : (Op.equal t (.func f x y) .nilFunc).run P w = .ok false w := run_equal_nilf1' ht f x y w 9999
theorem run_equal_nilf2' {t : TypeId} {a b : Array TypeId} {v : Bool} (ht : P.underlying t = some (.func a b v)) (f : Fn) (x y : Array Value) (w : World) (d : Nat) : (Op.equalIn (d + 1) t .nilFunc (.func f x y)).run P w = .ok false w := by
  simp [Op.equalIn, run_underlying ht]
theorem run_equal_nilf2 {t : TypeId} {a b : Array TypeId} {v : Bool} (ht : P.underlying t = some (.func a b v)) (f : Fn) (x y : Array Value) (w : World) : (Op.equal t .nilFunc (.func f x y)).run P w = .ok false w := run_equal_nilf2' ht f x y w 9999
/-- The binary operator of an equality. -/
def eqOp (neg : Bool) : BinOp := if neg then .neq else .eql
/-- Values of kinds at which '==' goes by the type. -/
def slow : Value → Bool
  | .bool _ | .pointer none | .slice _ _ _ | .map _ | .nilFunc | .func _ _ _ | .agg _ => true
  | _ => false
theorem run_eq {t : TypeId} {x y : Value} {b : Bool} (neg : Bool) (hx : slow x = true ∨ slow y = true) (h : (Op.equal t x y).run P w = .ok b w) :
    (binOp (eqOp neg) t x y).run P w = .ok (.bool (if neg then !b else b)) w := by
  cases neg <;> simp only [eqOp, Bool.false_eq_true, if_false, if_true] <;> unfold binOp <;> split <;> first | (simp [slow] at hx; done) | (simp [h]; done) | (simp_all; done)
/-- No guard where neither value is an aggregate or a nil interface. -/
def unguarded : Value → Bool
  | .agg _ | .nilIface => false
  | _ => true
theorem run_eqGuard {op : BinOp} {t : TypeId} {xo yo : Operand} {x y : Value} (h : unguarded x = true) : (eqGuard op t xo yo x y).run P w = .ok () w := by
  cases x <;> first | (simp [unguarded] at h; done) | (unfold eqGuard; split <;> rfl)
theorem pur_eq {neg : Bool} {t : TypeId} {x y : Value} {b : Bool} {xo yo : Operand} (hx : slow x = true ∨ slow y = true) (hg : unguarded x = true) (h : (Op.equal t x y).run P w = .ok b w) :
    ∃ u, (do eqGuard (eqOp neg) t xo yo x y; binOp (eqOp neg) t x y : Sem Value).run P w = .ok u w ∧ VRel σ E (bx neg b) u :=
  ⟨.bool (if neg then !b else b), by simp only [Sem.run_bind, run_eqGuard hg, Result.andThen]; exact run_eq neg hx h, eql_bx neg b⟩

theorem pur_eqb {neg : Bool} {vs : List AV} {x y : Value} (hv : VRels σ E vs [x, y]) (t : TypeId) (xo yo : Operand) (ht : P.underlying t = some .bool) :
    Pur P σ E w (sEqb neg vs) (do eqGuard (eqOp neg) t xo yo x y; binOp (eqOp neg) t x y) := by
  intro r hr
  unfold sEqb at hr
  split at hr
  · rename_i a b
    obtain ⟨u, u', hu, h1, h2⟩ := hv.two_inv
    simp only [List.cons.injEq, and_true] at hu
    obtain ⟨rfl, rfl⟩ := hu
    obtain rfl := h1.bool_inv
    obtain rfl := h2.bool_inv
    cases hr
    rw [show (if a = true then b else !b) = (a == b) by cases a <;> cases b <;> rfl]
    exact pur_eq (.inl rfl) rfl (run_equal_bool ht a b w)
  · cases hr
theorem pur_eqp {neg : Bool} {vs : List AV} {x y : Value} (hv : VRels σ E vs [x, y]) (t e : TypeId) (xo yo : Operand) (ht : P.underlying t = some (.pointer e)) :
    Pur P σ E w (sEqp neg vs) (do eqGuard (eqOp neg) t xo yo x y; binOp (eqOp neg) t x y) := by
  intro r hr
  unfold sEqp at hr
  split at hr <;> first | cases hr | skip
  all_goals
    obtain ⟨u, u', hu, h1, h2⟩ := hv.two_inv
    simp only [List.cons.injEq, and_true] at hu
    obtain ⟨rfl, rfl⟩ := hu
    cases h1
    cases h2
    first
      | exact pur_eq (.inl rfl) rfl (run_equal_nilp ht _ w)
      | exact pur_eq (.inr rfl) rfl (run_equal_pnil ht _ w)
theorem pur_eqs {neg : Bool} {vs : List AV} {x y : Value} (hv : VRels σ E vs [x, y]) (t e : TypeId) (xo yo : Operand) (ht : P.underlying t = some (.slice e)) :
    Pur P σ E w (sEqs neg vs) (do eqGuard (eqOp neg) t xo yo x y; binOp (eqOp neg) t x y) := by
  intro r hr
  unfold sEqs at hr
  split at hr <;> first | cases hr | skip
  all_goals
    obtain ⟨u, u', hu, h1, h2⟩ := hv.two_inv
    simp only [List.cons.injEq, and_true] at hu
    obtain ⟨rfl, rfl⟩ := hu
    cases h1
    all_goals cases h2
    all_goals first
      | exact pur_eq (.inl rfl) rfl (run_equal_nils ht _ _ _ _ _ w)
      | exact pur_eq (.inl rfl) rfl (run_equal_snil ht _ _ _ _ _ w)
theorem pur_eqm {neg : Bool} {vs : List AV} {x y : Value} (hv : VRels σ E vs [x, y]) (t k e : TypeId) (xo yo : Operand) (ht : P.underlying t = some (.map k e)) :
    Pur P σ E w (sEqm neg vs) (do eqGuard (eqOp neg) t xo yo x y; binOp (eqOp neg) t x y) := by
  intro r hr
  unfold sEqm at hr
  split at hr <;> first | cases hr | skip
  all_goals
    obtain ⟨u, u', hu, h1, h2⟩ := hv.two_inv
    simp only [List.cons.injEq, and_true] at hu
    obtain ⟨rfl, rfl⟩ := hu
    cases h1
    cases h2
    first
      | exact pur_eq (.inl rfl) rfl (run_equal_nilm ht _ w)
      | exact pur_eq (.inl rfl) rfl (run_equal_mnil ht _ w)
theorem pur_eqf {neg : Bool} {vs : List AV} {x y : Value} (hv : VRels σ E vs [x, y]) (t : TypeId) (a b : Array TypeId) (v : Bool) (xo yo : Operand) (ht : P.underlying t = some (.func a b v)) :
    Pur P σ E w (sEqf neg vs) (do eqGuard (eqOp neg) t xo yo x y; binOp (eqOp neg) t x y) := by
  intro r hr
  unfold sEqf at hr
  split at hr <;> first | cases hr | skip
  all_goals
    obtain ⟨u, u', hu, h1, h2⟩ := hv.two_inv
    simp only [List.cons.injEq, and_true] at hu
    obtain ⟨rfl, rfl⟩ := hu
    cases h1
    cases h2
    first
      | exact pur_eq (.inl rfl) rfl (run_equal_nilf ht w)
      | exact pur_eq (.inl rfl) rfl (run_equal_nilf1 ht _ _ _ w)
      | exact pur_eq (.inl rfl) rfl (run_equal_nilf2 ht _ _ _ w)
end Go.Hx
/- One operation: structs against structs; the small ones. -/
namespace Go.Hx
open Go
variable {σ : Nat → Value} {B : Nat} {E E' : Emb} {g : Nat → Option AO} {w w' : World} {nid : Nat} {P : Program} {ot : MOp → List AV → Option AV} {gm : Nat → Nat → Option AV}

theorem kindNum_cases {t : TypeId} {k : Nat} (h : kindNum P t = some k) : (k = 0 ∧ ∃ j, P.underlying t = some (.int j)) ∨ (k = 1 ∧ P.underlying t = some .string) ∨ (k = 2 ∧ P.underlying t = some .bool) := by
  unfold kindNum at h
  split at h <;> cases h
  · rename_i j hj; exact .inl ⟨rfl, j, hj⟩
  · rename_i hj; exact .inr (.inl ⟨rfl, hj⟩)
  · rename_i hj; exact .inr (.inr ⟨rfl, hj⟩)
theorem run_part_flat {t : TypeId} {k : Nat} (h : kindNum P t = some k) {cs : Array Value} {off : Nat} {v : Value} (hv : cs[off]? = some v) : (part t cs off).run P w = .ok v w := by
  rcases kindNum_cases h with ⟨_, j, hk⟩ | ⟨_, hk⟩ | ⟨_, hk⟩ <;> simp [part, isAgg, run_underlying hk, hv]

/-- A flat value of its type against another. -/
theorem run_equal_flat {t : TypeId} {k : Nat} (ht : kindNum P t = some k) {a b : AV} {x y : Value} {r : Bool} (hka : isKind k a = true) (ha : VRel σ E a x) (hb : VRel σ E b y) (h : flatEq a b = some r) (d : Nat) :
    (Op.equalIn (d + 1) t x y).run P w = .ok r w := by
  unfold flatEq at h
  split at h
  · rename_i kk p k' q
    obtain rfl := ha.int_inv
    obtain rfl := hb.int_inv
    split at h
    · rename_i hkk
      obtain rfl := kbeq_eq hkk
      cases h
      rcases kindNum_cases ht with ⟨rfl, j, hj⟩ | ⟨rfl, hj⟩ | ⟨rfl, hj⟩ <;> first | (simp [isKind] at hka; done) | skip
      rw [run_equalIn_int w d t kk j p q hj]; rfl
    · cases h
  · rename_i p q
    obtain ⟨s, rfl, hs1⟩ := ha.str_inv
    obtain ⟨s', rfl, hs2⟩ := hb.str_inv
    cases h
    rcases kindNum_cases ht with ⟨rfl, j, hj⟩ | ⟨rfl, hj⟩ | ⟨rfl, hj⟩ <;> first | (simp [isKind] at hka; done) | skip
    rw [run_equalIn_string w d t s s' hj, toList_data, toList_data, ← lbeq_bytes, hs1, hs2]
  · rename_i p q
    obtain rfl := ha.bool_inv
    obtain rfl := hb.bool_inv
    cases h
    rcases kindNum_cases ht with ⟨rfl, j, hj⟩ | ⟨rfl, hj⟩ | ⟨rfl, hj⟩ <;> first | (simp [isKind] at hka; done) | skip
    rw [run_equalIn_bool' w d t p q hj]
    cases p <;> cases q <;> rfl
  · cases h

theorem run_eqFields {d : Nat} {xs ys : Array Value} : ∀ (fs : List Field) (i : Nat) (ks : List Nat) (as bs : List AV) (r : Bool), flatFields P fs i = some ks → VRels σ E as (xs.toList.drop i) → VRels σ E bs (ys.toList.drop i) → flatEqs ks as bs = some r →
    (Op.eqFields (d + 1) xs ys fs).run P w = .ok r w
  | [], i, ks, as, bs, r, hf, ha, hb, h => by
    cases hf
    cases as <;> cases bs <;> simp [flatEqs] at h
    subst h; simp [Op.eqFields]
  | f :: fs, i, ks, as, bs, r, hf, ha, hb, h => by
    simp only [flatFields] at hf
    split at hf
    · rename_i hc
      simp only [Bool.and_eq_true, beq_iff_eq, bne_iff_ne] at hc
      split at hf
      · rename_i k ks' hk hks
        cases hf
        cases as with
        | nil => simp [flatEqs] at h
        | cons a as => cases bs with
          | nil => simp [flatEqs] at h
          | cons b bs =>
            simp only [flatEqs] at h
            split at h
            · rename_i hka
              have hx : ∃ x xr, xs.toList.drop i = x :: xr ∧ VRel σ E a x ∧ VRels σ E as xr := by
                generalize hd : xs.toList.drop i = l at ha
                cases ha with | cons _ u _ us h1 h2 => exact ⟨u, us, rfl, h1, h2⟩
              have hy : ∃ y yr, ys.toList.drop i = y :: yr ∧ VRel σ E b y ∧ VRels σ E bs yr := by
                generalize hd : ys.toList.drop i = l at hb
                cases hb with | cons _ u _ us h1 h2 => exact ⟨u, us, rfl, h1, h2⟩
              obtain ⟨x, xr, hxd, hax, harest⟩ := hx
              obtain ⟨y, yr, hyd, hby, hbrest⟩ := hy
              have gx : xs[f.offset]? = some x := by
                rw [hc.1, ← Array.getElem?_toList]
                have := congrArg (·[0]?) hxd; simpa using this
              have gy : ys[f.offset]? = some y := by
                rw [hc.1, ← Array.getElem?_toList]
                have := congrArg (·[0]?) hyd; simpa using this
              have dx : xs.toList.drop (i + 1) = xr := by
                rw [← List.drop_drop, hxd]; rfl
              have dy : ys.toList.drop (i + 1) = yr := by
                rw [← List.drop_drop, hyd]; rfl
              simp only [Op.eqFields, if_pos hc.2, Sem.run_bind, run_part_flat hk gx, run_part_flat hk gy, Result.andThen_ok]
              cases hfe : flatEq a b with
              | none => rw [hfe] at h; cases h
              | some t =>
                rw [hfe] at h
                rw [run_equal_flat hk hka hax hby hfe d]
                cases t
                · cases h; simp
                · simp only [Result.andThen_ok, Bool.not_true, Bool.false_eq_true, if_false]
                  exact run_eqFields fs (i + 1) _ as bs r hks (by rw [dx]; exact harest) (by rw [dy]; exact hbrest) h
            · cases h
      · cases hf
    · cases hf

theorem pur_eqst {neg : Bool} {vs : List AV} {x y : Value} {ks : List Nat} (hv : VRels σ E vs [x, y]) (t : TypeId) (fs : Array Field) (xo yo : Operand) (ht : P.underlying t = some (.struct fs)) (hf : flatFields P fs.toList 0 = some ks)
    (h1 : P.stoodInHeld t = false) (h2 : P.eqGuardType P.depth t = false) : Pur P σ E w (sEqst neg ks vs) (do eqGuard (eqOp neg) t xo yo x y; binOp (eqOp neg) t x y) := by
  intro r hr
  unfold sEqst at hr
  split at hr
  · rename_i a b
    obtain ⟨u, u', hu, ha, hb⟩ := hv.two_inv
    simp only [List.cons.injEq, and_true] at hu
    obtain ⟨rfl, rfl⟩ := hu
    obtain ⟨c, rfl, hc⟩ := ha.agg_inv
    obtain ⟨c', rfl, hc'⟩ := hb.agg_inv
    split at hr
    · cases hfe : flatEqs ks a b with
      | none => rw [hfe] at hr; cases hr
      | some q =>
        rw [hfe] at hr
        cases hr
        have hof : P.fieldsOf t = fs := by simp [Program.fieldsOf, ht]
        have hrun : (Op.equalIn (9999 + 1) t (.agg c) (.agg c')).run P w = .ok q w := by
          rw [run_equalIn_struct w 9999 t c c' (by rw [hof]; exact ht) h1, hof]
          exact run_eqFields (d := 9998) fs.toList 0 ks a b q hf (by simpa using hc) (by simpa using hc') hfe
        refine ⟨.bool (if neg then !q else q), ?_, eql_bx neg q⟩
        simp only [Sem.run_bind, run_eqGuard_agg w _ t xo yo c c' h2, Result.andThen_ok]
        exact run_eq neg (.inl rfl) hrun
    · cases hr
  · cases hr

/-! ### The small ones -/
theorem pur_un {op : UnOp} {vs : List AV} {x : Value} (hv : VRels σ E vs [x]) : Pur P σ E w (sUn op vs) (Op.unary op x) := by
  intro r hr
  unfold sUn at hr
  split at hr
  · obtain ⟨u, hu, h1⟩ := hv.one_inv
    simp only [List.cons.injEq, and_true] at hu; subst hu
    obtain rfl := h1.bool_inv
    split at hr <;> cases hr
    exact ⟨_, by simp [Op.unary], .bool _⟩
  · rename_i k n
    obtain ⟨u, hu, h1⟩ := hv.one_inv
    simp only [List.cons.injEq, and_true] at hu; subst hu
    obtain rfl := h1.int_inv
    split at hr <;> cases hr
    refine ⟨.int k (k.wrap (0 - n)), by simp [Op.unary, Op.intArith], by rw [wrapF_eq]; exact .int _ _⟩
  · cases hr
theorem pur_conv {k : IntKind} {vs : List AV} {x : Value} (hv : VRels σ E vs [x]) {s d : TypeId} (hd : P.underlying d = some (.int k)) (hs : ∃ j, P.underlying s = some (.int j)) : Pur P σ E w (sConv k vs) (convert s d x) := by
  intro r hr
  unfold sConv at hr
  split at hr
  · rename_i j n
    obtain ⟨u, hu, h1⟩ := hv.one_inv
    simp only [List.cons.injEq, and_true] at hu; subst hu
    obtain rfl := h1.int_inv
    cases hr
    obtain ⟨j', hj⟩ := hs
    refine ⟨.int k (k.wrap n), ?_, by rw [wrapF_eq]; exact .int _ _⟩
    simp [convert, run_underlying hd, run_underlying hj, Conv.intToInt]
  · cases hr
end Go.Hx
