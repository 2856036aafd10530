/- The executor's base: a trie, abstract values, abstract objects, the relation between an abstract heap and a world. -/
import Derived.RowKit3
import Derived.Below
import Derived.Calls
import Derived.Orders
namespace Go.Hx
open Go

/-! ### A trie keyed by numbers, four ways at each step -/
inductive P4 where
  | e
  | a (p : P4)
  | b (p : P4)
  | c (p : P4)
  | d (p : P4)
  deriving DecidableEq
noncomputable def toPf (f : Nat) : Nat → P4 := Nat.rec (motive := fun _ => Nat → P4) (fun _ => .e) (fun _ ih n => Nat.rec (motive := fun _ => P4) .e (fun m _ =>
   Nat.rec (motive := fun _ => P4) (.a (ih (Nat.div m 4))) (fun k _ => Nat.rec (motive := fun _ => P4) (.b (ih (Nat.div m 4))) (fun k _ => Nat.rec (motive := fun _ => P4) (.c (ih (Nat.div m 4))) (fun _ _ => .d (ih (Nat.div m 4))) k) k) (Nat.mod m 4)) n) f
/-- A number's path. -/
noncomputable def toP (n : Nat) : P4 := Bool.rec (motive := fun _ => P4) (toPf n n) (toPf 20 n) (Nat.blt n 1099511627776)
def P4.val : P4 → Nat
  | .e => 0
  | .a p => 4 * p.val + 1
  | .b p => 4 * p.val + 2
  | .c p => 4 * p.val + 3
  | .d p => 4 * p.val + 4
theorem toPf_succ (f m : Nat) : toPf (f + 1) (m + 1) = if m % 4 = 0 then .a (toPf f (m / 4)) else if m % 4 = 1 then .b (toPf f (m / 4)) else if m % 4 = 2 then .c (toPf f (m / 4)) else .d (toPf f (m / 4)) := by
  have e : ∀ r, r = m % 4 → toPf (f + 1) (m + 1) = Nat.rec (motive := fun _ => P4) (.a (toPf f (m / 4))) (fun k _ => Nat.rec (motive := fun _ => P4) (.b (toPf f (m / 4))) (fun k _ => Nat.rec (motive := fun _ => P4) (.c (toPf f (m / 4))) (fun _ _ => .d (toPf f (m / 4))) k) k) r := fun r hr => by subst hr; rfl
  rcases (by omega : m % 4 = 0 ∨ m % 4 = 1 ∨ m % 4 = 2 ∨ m % 4 = 3) with h | h | h | h <;> rw [e _ h.symm, h] <;> rfl
theorem toPf_val (f : Nat) : ∀ n, (n ≤ f ∨ n < 4 ^ f) → (toPf f n).val = n := by
  induction f with
  | zero => intro n h; have : n = 0 := by rcases h with h | h <;> simp at h <;> omega
            subst this; rfl
  | succ f ih =>
    intro n h
    cases n with
    | zero => rfl
    | succ m =>
      have hm : m / 4 ≤ f ∨ m / 4 < 4 ^ f := by
        rcases h with h | h
        · exact .inl (by omega)
        · rw [Nat.pow_succ] at h; exact .inr (by omega)
      have := ih _ hm
      rw [toPf_succ]
      repeat' split
      all_goals simp only [P4.val, this]; omega
theorem toP_val (n : Nat) : (toP n).val = n := by
  unfold toP
  cases h : Nat.blt n 1099511627776 with
  | false => exact toPf_val n n (.inl (Nat.le_refl n))
  | true => exact toPf_val 20 n (.inr (by have := Nat.le_of_ble_eq_true h; omega))
theorem toP_inj {n m : Nat} (h : toP n = toP m) : n = m := by rw [← toP_val n, ← toP_val m, h]

inductive T (α : Type) where
  | nil
  | nd (v : Option α) (a b c d : T α)

namespace T
variable {α : Type}
noncomputable def getP (t : T α) : P4 → Option α := T.rec (motive := fun _ => P4 → Option α) (fun _ => none)
   (fun v _ _ _ _ ga gb gc gd p => P4.rec (motive := fun _ => Option α) v (fun p _ => ga p) (fun p _ => gb p) (fun p _ => gc p) (fun p _ => gd p) p) t
/-- Not worked out before it is looked at. -/
noncomputable def setP (p : P4) : T α → Option α → T α := P4.rec (motive := fun _ => T α → Option α → T α)
   (fun t o => T.rec (motive := fun _ => T α) (nd o nil nil nil nil) (fun _ a b c d _ _ _ _ => nd o a b c d) t)
   (fun _ ih t o => T.rec (motive := fun _ => T α) (nd none (ih nil o) nil nil nil) (fun v a b c d _ _ _ _ => nd v (ih a o) b c d) t)
   (fun _ ih t o => T.rec (motive := fun _ => T α) (nd none nil (ih nil o) nil nil) (fun v a b c d _ _ _ _ => nd v a (ih b o) c d) t)
   (fun _ ih t o => T.rec (motive := fun _ => T α) (nd none nil nil (ih nil o) nil) (fun v a b c d _ _ _ _ => nd v a b (ih c o) d) t)
   (fun _ ih t o => T.rec (motive := fun _ => T α) (nd none nil nil nil (ih nil o)) (fun v a b c d _ _ _ _ => nd v a b c (ih d o)) t) p
noncomputable def get (t : T α) (n : Nat) : Option α := getP t (toP n)
noncomputable def set (_f : Nat) (t : T α) (n : Nat) (a : Option α) : T α := setP (toP n) t a
noncomputable def put {R : Type} (f : Nat) (t : T α) (n : Nat) (a : Option α) (k : T α → R) : R := k (set f t n a)

theorem getP_nil (p : P4) : (nil : T α).getP p = none := rfl
theorem get_nil (n : Nat) : (nil : T α).get n = none := rfl
theorem put_eq (f : Nat) {R : Type} (t : T α) (n : Nat) (a : Option α) (k : T α → R) : put f t n a k = k (set f t n a) := rfl
theorem getP_setP (p : P4) : ∀ (t : T α) (q : P4) (o : Option α), (setP p t o).getP q = if q = p then o else t.getP q := by
  induction p with
  | e => intro t q o; cases t <;> cases q <;> simp [setP, getP]
  | a p ih => intro t q o; cases t <;> cases q <;> simp [setP, getP] <;> first | (simpa [setP, getP] using ih _ _ o) | skip
  | b p ih => intro t q o; cases t <;> cases q <;> simp [setP, getP] <;> first | (simpa [setP, getP] using ih _ _ o) | skip
  | c p ih => intro t q o; cases t <;> cases q <;> simp [setP, getP] <;> first | (simpa [setP, getP] using ih _ _ o) | skip
  | d p ih => intro t q o; cases t <;> cases q <;> simp [setP, getP] <;> first | (simpa [setP, getP] using ih _ _ o) | skip
theorem get_set (f : Nat) (t : T α) (n m : Nat) (a : Option α) (_h : n + 1 < 2 ^ f) : (set f t n a).get m = if m = n then a else t.get m := by
  unfold set get
  rw [getP_setP]
  by_cases e : m = n
  · subst e; simp
  · rw [if_neg e, if_neg (fun h => e (toP_inj h))]
end T
end Go.Hx
/- Abstract values and objects, and what they say of a world. -/
namespace Go.Hx
open Go

/-- Abstract values: addresses are numbers of abstract objects. -/
inductive AV where
  | bool (b : Bool)
  | int (k : IntKind) (n : Int)
  | str (s : List Nat)
  | nilp
  | ptr (id off : Nat)
  | gptr (g off : Nat)
  | nils
  | slice (id off len es : Nat) (cap : Option Nat)
  | nilm
  | map (id : Nat)
  | func (f : Nat) (first captured : List AV)
  | nilf
  | iface (t : Nat) (v : AV)
  | nili
  | agg (cs : List AV)
  | tup (vs : List AV)
  | opq (i : Nat)

/-- Abstract objects: a row of cells (what is known of them; how many there are at least; are there no more?), a map, iterators. -/
inductive AO where
  | cells (cs : T AV) (lo : Nat) (closed : Bool)
  | map (es : List (AV × AV × Nat)) (clock : Nat)
  | siter (s : List Nat) (pos : Nat)
  | miter (m : Option Nat) (since : Nat) (seen : List Nat) (stepped : Nat)

/-- Where abstract objects lie: block, first cell, how many cells the block has. -/
abbrev Emb := Nat → Option (Nat × Nat × Nat)

def Emb.le (E E' : Emb) : Prop := ∀ id x, E id = some x → E' id = some x
theorem Emb.le.refl (E : Emb) : Emb.le E E := fun _ _ h => h
theorem Emb.le.trans {a b c : Emb} (h : Emb.le a b) (k : Emb.le b c) : Emb.le a c := fun i x hx => k i x (h i x hx)

/-- How a slice's capacity is known: a number, or: to the block's end. -/
def CapRel (cap : Option Nat) (at_ es size c : Nat) : Prop :=
  match cap with
  | some c' => c = c'
  | none => at_ + c * es = size

mutual
inductive VRel (σ : Nat → Value) (E : Emb) : AV → Value → Prop
  | bool (b : Bool) : VRel σ E (.bool b) (.bool b)
  | int (k : IntKind) (n : Int) : VRel σ E (.int k n) (.int k n)
  | str (l : List Nat) (s : ByteArray) (h : s.data.toList.map UInt8.toNat = l) : VRel σ E (.str l) (.string s)
  | nilp : VRel σ E .nilp (.pointer none)
  | ptr (id off b base size : Nat) (h : E id = some (b, base, size)) : VRel σ E (.ptr id off) (.pointer (some ⟨b, base + off, none⟩))
  | gptr (g off : Nat) : VRel σ E (.gptr g off) (.pointer (some ⟨g, off, none⟩))
  | nils : VRel σ E .nils (.slice none 0 0)
  | slice (id off len es : Nat) (cap : Option Nat) (b base size c : Nat) (h : E id = some (b, base, size)) (hc : CapRel cap (base + off) es size c) (hl : len ≤ c) :
      VRel σ E (.slice id off len es cap) (.slice (some ⟨b, base + off, none⟩) len c)
  | slice0 (id off es : Nat) (b base size : Nat) (a : Addr) (h : E id = some (b, base, size)) (hs : base + off = size) :
      VRel σ E (.slice id off 0 es none) (.slice (some a) 0 0)
  | slice00 (id off es : Nat) (b base size : Nat) (a : Addr) (h : E id = some (b, base, size)) : VRel σ E (.slice id off 0 es (some 0)) (.slice (some a) 0 0)
  | nilm : VRel σ E .nilm (.map none)
  | map (id b base size : Nat) (h : E id = some (b, base, size)) : VRel σ E (.map id) (.map (some b))
  | func (f : Nat) (first captured : List AV) (a c : Array Value) (ha : VRels σ E first a.toList) (hc : VRels σ E captured c.toList) :
      VRel σ E (.func f first captured) (.func (.func f) a c)
  | nilf : VRel σ E .nilf .nilFunc
  | iface (t : Nat) (v : AV) (u : Value) (h : VRel σ E v u) : VRel σ E (.iface t v) (.iface t u)
  | nili : VRel σ E .nili .nilIface
  | agg (cs : List AV) (c : Array Value) (h : VRels σ E cs c.toList) : VRel σ E (.agg cs) (.agg c)
  | tup (vs : List AV) (c : Array Value) (h : VRels σ E vs c.toList) : VRel σ E (.tup vs) (.tuple c)
  | opq (i : Nat) : VRel σ E (.opq i) (σ i)
inductive VRels (σ : Nat → Value) (E : Emb) : List AV → List Value → Prop
  | nil : VRels σ E [] []
  | cons (v : AV) (u : Value) (vs : List AV) (us : List Value) (h : VRel σ E v u) (hs : VRels σ E vs us) : VRels σ E (v :: vs) (u :: us)
end

section
variable {σ : Nat → Value} {E E' : Emb}

mutual
theorem VRel.mono (h : Emb.le E E') : ∀ {v : AV} {u : Value}, VRel σ E v u → VRel σ E' v u
  | _, _, .bool b => .bool b
  | _, _, .int k n => .int k n
  | _, _, .str l s h => .str l s h
  | _, _, .nilp => .nilp
  | _, _, .ptr id off b base size hE => .ptr id off b base size (h _ _ hE)
  | _, _, .gptr g off => .gptr g off
  | _, _, .nils => .nils
  | _, _, .slice id off len es cap b base size c hE hc hl => .slice id off len es cap b base size c (h _ _ hE) hc hl
  | _, _, .slice0 id off es b base size a hE hs => .slice0 id off es b base size a (h _ _ hE) hs
  | _, _, .slice00 id off es b base size a hE => .slice00 id off es b base size a (h _ _ hE)
  | _, _, .nilm => .nilm
  | _, _, .map id b base size hE => .map id b base size (h _ _ hE)
  | _, _, .func f fs cs a c ha hc => .func f fs cs a c (VRels.mono h ha) (VRels.mono h hc)
  | _, _, .nilf => .nilf
  | _, _, .iface t v u hv => .iface t v u (VRel.mono h hv)
  | _, _, .nili => .nili
  | _, _, .agg cs c hs => .agg cs c (VRels.mono h hs)
  | _, _, .tup vs c hs => .tup vs c (VRels.mono h hs)
  | _, _, .opq i => .opq i
theorem VRels.mono (h : Emb.le E E') : ∀ {v : List AV} {u : List Value}, VRels σ E v u → VRels σ E' v u
  | _, _, .nil => .nil
  | _, _, .cons v u vs us hv hs => .cons v u vs us (VRel.mono h hv) (VRels.mono h hs)
end

theorem VRels.length {l : List AV} {us : List Value} (h : VRels σ E l us) : l.length = us.length := by
  induction l generalizing us with
  | nil => cases h; rfl
  | cons v vs ih => cases h with | cons _ _ _ us' hv hs => simp [ih hs]

theorem VRels.get {l : List AV} {us : List Value} (h : VRels σ E l us) : ∀ {i : Nat} {v : AV}, l[i]? = some v → ∃ u, us[i]? = some u ∧ VRel σ E v u := by
  induction l generalizing us with
  | nil => intro i v hi; simp at hi
  | cons x xs ih =>
    cases h with
    | cons _ u _ us' hv hs =>
      intro i v hi
      cases i with
      | zero => simp at hi; subst hi; exact ⟨u, rfl, hv⟩
      | succ i => simpa using ih hs (i := i) (by simpa using hi)

theorem VRels.append {l l' : List AV} {us us' : List Value} (h : VRels σ E l us) (h' : VRels σ E l' us') : VRels σ E (l ++ l') (us ++ us') := by
  induction l generalizing us with
  | nil => cases h; exact h'
  | cons v vs ih => cases h with | cons _ u _ us0 hv hs => exact .cons _ _ _ _ hv (ih hs)

theorem VRels.drop {l : List AV} {us : List Value} (h : VRels σ E l us) : ∀ n, VRels σ E (l.drop n) (us.drop n) := by
  induction l generalizing us with
  | nil => cases h; intro n; simp; exact .nil
  | cons v vs ih => cases h with
    | cons _ u _ us0 hv hs => intro n; cases n with
      | zero => exact .cons _ _ _ _ hv hs
      | succ n => simpa using ih hs n

theorem VRels.take {l : List AV} {us : List Value} (h : VRels σ E l us) : ∀ n, VRels σ E (l.take n) (us.take n) := by
  induction l generalizing us with
  | nil => cases h; intro n; simp; exact .nil
  | cons v vs ih => cases h with
    | cons _ u _ us0 hv hs => intro n; cases n with
      | zero => simp; exact .nil
      | succ n => simpa using .cons _ _ _ _ hv (ih hs n)

/-- One cell? -/
def AV.one : AV → Bool
  | .agg _ | .tup _ => false
  | _ => true

/-- The opaque ones are single cells. -/
def OneOpq (σ : Nat → Value) : Prop := ∀ i, (σ i).oneCell' = true

theorem VRel.one (hσ : OneOpq σ) {v : AV} {u : Value} (h : VRel σ E v u) (hv : v.one = true) : u.oneCell' = true := by
  cases h <;> first | rfl | exact hσ _ | simp [AV.one] at hv

/-! ### Objects -/
def EntriesRel (σ : Nat → Value) (E : Emb) : List (AV × AV × Nat) → List MapEntry → Prop
  | [], [] => True
  | (k, v, b) :: es, m :: ms => VRel σ E k m.key ∧ VRel σ E v m.val ∧ m.born = b ∧ EntriesRel σ E es ms
  | _, _ => False

theorem EntriesRel.mono (h : Emb.le E E') : ∀ {es : List (AV × AV × Nat)} {ms : List MapEntry}, EntriesRel σ E es ms → EntriesRel σ E' es ms
  | [], [], _ => trivial
  | (_, _, _) :: _, _ :: _, ⟨a, b, c, d⟩ => ⟨a.mono h, b.mono h, c, EntriesRel.mono h d⟩
  | [], _ :: _, hh => hh.elim
  | _ :: _, [], hh => hh.elim

def ORel (σ : Nat → Value) (E : Emb) (x : Nat × Nat × Nat) (o : AO) (ob : Option Obj) : Prop :=
  match o with
  | .cells cs lo closed => ∃ c elem frz, ob = some (.cells c elem frz) ∧ c.size = x.2.2 ∧ x.2.1 + lo ≤ x.2.2 ∧ (closed = true → x.2.1 + lo = x.2.2 ∧ x.2.1 = 0) ∧
      (∀ i v, cs.get i = some v → i < lo ∧ ∃ u, c[x.2.1 + i]? = some u ∧ VRel σ E v u ∧ u.oneCell' = true) ∧
      (∀ off, x.2.1 ≤ off → off < x.2.2 → ¬ (frz.1 ≤ off ∧ off < frz.2))
  | .map es clock => ∃ ms, ob = some (.map ms clock) ∧ EntriesRel σ E es ms.toList
  | .siter s pos => ∃ b : ByteArray, ob = some (.stringIter b pos) ∧ b.data.toList.map UInt8.toNat = s ∧ x.2.1 = 0
  | .miter m since seen stepped => ∃ m', ob = some (.mapIter m' since seen.toArray stepped) ∧ x.2.1 = 0 ∧
      (match m with
       | none => m' = none
       | some id => ∃ y, E id = some y ∧ m' = some y.1)

theorem ORel.mono (h : Emb.le E E') {x : Nat × Nat × Nat} {o : AO} {ob : Option Obj} (hr : ORel σ E x o ob) : ORel σ E' x o ob := by
  cases o with
  | cells cs lo closed =>
    obtain ⟨c, elem, frz, h1, h2, h3, h4, h5, h6⟩ := hr
    exact ⟨c, elem, frz, h1, h2, h3, h4, fun i v hv => let ⟨a, u, b, d, e⟩ := h5 i v hv; ⟨a, u, b, d.mono h, e⟩, h6⟩
  | map es clock =>
    obtain ⟨ms, h1, h2⟩ := hr
    exact ⟨ms, h1, h2.mono h⟩
  | siter s pos => exact hr
  | miter m since seen stepped =>
    obtain ⟨m', h1, h0, h2⟩ := hr
    refine ⟨m', h1, h0, ?_⟩
    cases m with
    | none => exact h2
    | some id => obtain ⟨y, hy, e⟩ := h2; exact ⟨y, h _ _ hy, e⟩

/-- A heap of abstract objects, as a function, in a world. B: below that block nothing is of these. -/
structure HObj (σ : Nat → Value) (B : Nat) (E : Emb) (g : Nat → Option AO) (w : World) : Prop where
  obj : ∀ id o, g id = some o → ∃ x, E id = some x ∧ B ≤ x.1 ∧ x.1 < w.heap.size ∧ ORel σ E x o w.heap[x.1]?
  inj : ∀ i j o o' x y, g i = some o → g j = some o' → E i = some x → E j = some y → x.1 = y.1 → i = j

/-- Changes of an abstract heap: later ones first in the list win: the list is applied from its head on. -/
abbrev Ws := List (Nat × Option AO)
def upd1 (g : Nat → Option AO) (id : Nat) (o : Option AO) : Nat → Option AO := fun i => if i = id then o else g i
def upd (g : Nat → Option AO) : Ws → (Nat → Option AO)
  | [] => g
  | (id, o) :: ws => upd (upd1 g id o) ws

theorem HObj.mono {B : Nat} {g : Nat → Option AO} {w : World} (h : HObj σ B E g w) (he : Emb.le E E') : HObj σ B E' g w where
  obj id o ho := let ⟨x, a, b, c, d⟩ := h.obj id o ho; ⟨x, he _ _ a, b, c, d.mono he⟩
  inj i j o o' x y hi hj hx hy hxy := by
    obtain ⟨x', a, _⟩ := h.obj i o hi
    obtain ⟨y', b, _⟩ := h.obj j o' hj
    have e1 : x' = x := Option.some.inj ((he _ _ a).symm.trans hx)
    have e2 : y' = y := Option.some.inj ((he _ _ b).symm.trans hy)
    subst e1; subst e2
    exact h.inj i j o o' _ _ hi hj a b hxy

/-- Fewer objects. -/
theorem HObj.sub {B : Nat} {g g' : Nat → Option AO} {w : World} (h : HObj σ B E g w) (hs : ∀ id o, g' id = some o → g id = some o) : HObj σ B E g' w where
  obj id o ho := h.obj id o (hs id o ho)
  inj i j o o' x y hi hj := h.inj i j o o' x y (hs _ _ hi) (hs _ _ hj)

theorem HObj.del {B : Nat} {g : Nat → Option AO} {w : World} (h : HObj σ B E g w) (id : Nat) : HObj σ B E (upd1 g id none) w :=
  h.sub fun i o ho => by unfold upd1 at ho; split at ho <;> first | cases ho | exact ho

/-- Another world with the same heap. -/
theorem HObj.heap {B : Nat} {g : Nat → Option AO} {w w' : World} (h : HObj σ B E g w) (e : w'.heap = w.heap) : HObj σ B E g w' where
  obj id o ho := by rw [e]; exact h.obj id o ho
  inj := h.inj

/-- Another world that agrees at the blocks of these objects. -/
theorem HObj.agree {B : Nat} {g : Nat → Option AO} {w w' : World} (h : HObj σ B E g w) (hz : w.heap.size ≤ w'.heap.size)
    (e : ∀ id o x, g id = some o → E id = some x → w'.heap[x.1]? = w.heap[x.1]?) : HObj σ B E g w' where
  obj id o ho := by
    obtain ⟨x, a, b, c, d⟩ := h.obj id o ho
    exact ⟨x, a, b, Nat.lt_of_lt_of_le c hz, by rw [e id o x ho a]; exact d⟩
  inj := h.inj

/-- The embedding with one more. -/
def Emb.put (E : Emb) (id : Nat) (x : Nat × Nat × Nat) : Emb := fun i => if i = id then some x else E i
theorem Emb.le_put {id : Nat} {x : Nat × Nat × Nat} (h : E id = none) : Emb.le E (E.put id x) := fun i y hy => by
  unfold Emb.put
  split
  · rename_i e; subst e; rw [h] at hy; cases hy
  · exact hy
theorem Emb.put_same {id : Nat} {x : Nat × Nat × Nat} : (E.put id x) id = some x := by simp [Emb.put]
theorem Emb.put_other {id i : Nat} {x : Nat × Nat × Nat} (h : i ≠ id) : (E.put id x) i = E i := by simp [Emb.put, h]

/-- A new object in a new block. -/
theorem HObj.alloc {B : Nat} {g : Nat → Option AO} {w w' : World} (h : HObj σ B E g w) {nid : Nat} (hn : E nid = none) {ob : Obj} (hw : w'.heap = w.heap.push ob) (hB : B ≤ w.heap.size)
    {base size : Nat} {o : AO} (ho : ORel σ (E.put nid (w.heap.size, base, size)) (w.heap.size, base, size) o (some ob)) :
    HObj σ B (E.put nid (w.heap.size, base, size)) (upd1 g nid (some o)) w' := by
  have he : Emb.le E (E.put nid (w.heap.size, base, size)) := Emb.le_put hn
  have hold : ∀ id o', id ≠ nid → upd1 g nid (some o) id = some o' → g id = some o' := fun id o' hne hh => by simpa [upd1, hne] using hh
  refine ⟨fun id o' hid => ?_, fun i j oi oj x y hi hj hx hy hxy => ?_⟩
  · by_cases e : id = nid
    · subst e
      refine ⟨_, Emb.put_same, hB, by simp [hw], ?_⟩
      have : o' = o := by simpa [upd1] using hid.symm
      subst this
      have hnew : w'.heap[w.heap.size]? = some ob := by simp [hw]
      show ORel σ _ _ _ (w'.heap[w.heap.size]?)
      rw [hnew]; exact ho
    · obtain ⟨x, a, b, c, d⟩ := h.obj id o' (hold id o' e hid)
      refine ⟨x, he _ _ a, b, by simp [hw]; omega, ?_⟩
      have hkeep : w'.heap[x.1]? = w.heap[x.1]? := by rw [hw, Array.getElem?_push, if_neg (by omega)]
      rw [hkeep]; exact d.mono he
  · have key : ∀ k ok z, upd1 g nid (some o) k = some ok → (E.put nid (w.heap.size, base, size)) k = some z → k ≠ nid → E k = some z ∧ z.1 < w.heap.size := by
      intro k ok z hk hz hne
      obtain ⟨x, a, b, c, d⟩ := h.obj k ok (hold k ok hne hk)
      have hz' : E k = some z := by rw [Emb.put_other hne] at hz; exact hz
      have hxz : x = z := Option.some.inj (a.symm.trans hz')
      subst hxz
      exact ⟨a, c⟩
    by_cases ei : i = nid
    · by_cases ej : j = nid
      · rw [ei, ej]
      · have h1 : x = (w.heap.size, base, size) := by rw [ei, Emb.put_same] at hx; exact (Option.some.inj hx).symm
        have h2 := (key j oj y hj hy ej).2
        rw [h1] at hxy; simp at hxy; omega
    · by_cases ej : j = nid
      · have h1 : y = (w.heap.size, base, size) := by rw [ej, Emb.put_same] at hy; exact (Option.some.inj hy).symm
        have h2 := (key i oi x hi hx ei).2
        rw [h1] at hxy; simp at hxy; omega
      · exact h.inj i j oi oj x y (hold i oi ei hi) (hold j oj ej hj) (key i oi x hi hx ei).1 (key j oj y hj hy ej).1 hxy

/-- An object of these changes, in its own block. -/
theorem HObj.write {B : Nat} {g : Nat → Option AO} {w w' : World} (h : HObj σ B E g w) {id : Nat} {o₀ o : AO} {x : Nat × Nat × Nat} (h0 : g id = some o₀) (hx : E id = some x)
    (hz : w.heap.size ≤ w'.heap.size) (hw : ∀ b, b ≠ x.1 → b < w.heap.size → w'.heap[b]? = w.heap[b]?) (ho : ORel σ E x o w'.heap[x.1]?) : HObj σ B E (upd1 g id (some o)) w' := by
  have back : ∀ k ok, upd1 g id (some o) k = some ok → ∃ ok', g k = some ok' := by
    intro k ok hk
    by_cases e : k = id
    · exact ⟨o₀, e ▸ h0⟩
    · exact ⟨ok, by simpa [upd1, e] using hk⟩
  refine ⟨fun k ok hk => ?_, fun i j oi oj a b hi hj ha hb hab => ?_⟩
  · by_cases e : k = id
    · subst e
      obtain ⟨y, a, b, c, d⟩ := h.obj k o₀ h0
      have : y = x := Option.some.inj (a.symm.trans hx)
      subst this
      have e2 : ok = o := by simpa [upd1] using hk.symm
      subst e2
      exact ⟨y, a, b, Nat.lt_of_lt_of_le c hz, ho⟩
    · have hk' : g k = some ok := by simpa [upd1, e] using hk
      obtain ⟨y, a, b, c, d⟩ := h.obj k ok hk'
      have hne : y.1 ≠ x.1 := fun hh => e (h.inj k id ok o₀ y x hk' h0 a hx hh)
      exact ⟨y, a, b, Nat.lt_of_lt_of_le c hz, by rw [hw _ hne c]; exact d⟩
  · obtain ⟨oi', hi'⟩ := back i oi hi
    obtain ⟨oj', hj'⟩ := back j oj hj
    exact h.inj i j oi' oj' a b hi' hj' ha hb hab
end
end Go.Hx
