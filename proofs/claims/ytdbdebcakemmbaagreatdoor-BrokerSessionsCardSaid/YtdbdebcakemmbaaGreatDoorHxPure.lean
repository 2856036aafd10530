/- The operations that look at no memory. -/
import Derived.Test.YtdbdebcakemmbaaGreatDoorHxExec
import Derived.Laws.Sem
import Derived.Laws.World
import Derived.Laws.Strings
import Derived.Laws.Cells
import Derived.Laws.Entries
import Derived.ChangeKeysEq
namespace Go.Hx
open Go

variable {σ : Nat → Value} {E : Emb} {t : TypeId}
theorem kbeq_eq {a b : IntKind} (h : kbeq a b = true) : a = b := by
  cases a <;> cases b <;> first | rfl | (simp [kbeq] at h; done) | (exact absurd h (by decide))

theorem kmax_bits (k : IntKind) : (kmax k : Int) < 2 ^ k.bits := by cases k <;> decide
theorem kmax_half {k : IntKind} (h : ksigned k = true) : (kmax k : Int) + 1 = 2 ^ (k.bits - 1) := by cases k <;> first | decide | (simp [ksigned] at h)
theorem ksigned_eq (k : IntKind) : k.signed = ksigned k := by cases k <;> rfl
theorem half_pos (k : IntKind) : (2 : Int) ^ k.bits = 2 ^ (k.bits - 1) + 2 ^ (k.bits - 1) := by cases k <;> decide
theorem wrap_of_le {k : IntKind} {m : Nat} (h : m ≤ kmax k) : k.wrap (.ofNat m) = .ofNat m := by
  have h1 := kmax_bits k
  have h2 : (Int.ofNat m) % (2 ^ k.bits : Int) = Int.ofNat m := Int.emod_eq_of_lt (Int.natCast_nonneg m) (by show (m : Int) < _; omega)
  unfold IntKind.wrap
  dsimp only
  rw [h2]
  cases hs : ksigned k with
  | false => rw [ksigned_eq, hs]; rfl
  | true =>
    have h3 := kmax_half hs
    rw [if_neg]
    simp only [Bool.and_eq_true, decide_eq_true_eq, not_and]
    intro _
    show ¬ ((m : Int) ≥ _)
    omega
theorem wrap_of_neg {k : IntKind} {m : Nat} (hs : ksigned k = true) (h : m ≤ kmax k) : k.wrap (.negSucc m) = .negSucc m := by
  have h1 := kmax_bits k
  have h3 := kmax_half hs
  have h4 := half_pos k
  have h2 : (Int.negSucc m) % (2 ^ k.bits : Int) = 2 ^ k.bits - 1 - m := by
    rw [show Int.negSucc m = (2 ^ k.bits - 1 - (m : Int)) + (2 ^ k.bits : Int) * (-1) from by rw [Int.negSucc_eq]; omega, Int.add_mul_emod_self_left]
    exact Int.emod_eq_of_lt (by omega) (by omega)
  unfold IntKind.wrap
  dsimp only
  rw [h2, if_pos]
  · rw [Int.negSucc_eq]; omega
  · simp only [Bool.and_eq_true, decide_eq_true_eq]
    exact ⟨by rw [ksigned_eq]; exact hs, by show _ ≤ _; omega⟩

theorem wrapF_eq (k : IntKind) (n : Int) : wrapF k n = k.wrap n := by
  unfold wrapF
  split
  · split
    · rename_i m h; exact (wrap_of_le (Nat.le_of_ble_eq_true h)).symm
    · rfl
  · split
    · rename_i m h
      simp only [Bool.and_eq_true] at h
      exact (wrap_of_neg h.1 (Nat.le_of_ble_eq_true h.2)).symm
    · rfl

theorem kbits_max (k : IntKind) : kmax k < 2 ^ k.bits := by cases k <;> decide

theorem bv_ofNat {k : IntKind} {a : Nat} (h : a ≤ kmax k) : (BitVec.ofInt k.bits (.ofNat a)).toNat = a := by
  have h1 := kbits_max k
  rw [show (Int.ofNat a) = (a : Int) from rfl, BitVec.ofInt_natCast, BitVec.toNat_ofNat]
  exact Nat.mod_eq_of_lt (by omega)

theorem land_le_left (a b : Nat) : a.land b ≤ a := Nat.and_le_left
theorem run_intBits {P : Program} {op : BinOp} {k : IntKind} {x y : Int} {w : World} {r : AV}
    (hop : op = .and ∨ op = .or ∨ op = .xor ∨ op = .andNot) (h : intBin op k x y = some r) :
    ∃ n, r = .int k n ∧ (Op.intBits op k x y).run P w = .ok (.int k n) w := by
  rcases hop with rfl | rfl | rfl | rfl
  all_goals
    simp only [intBin] at h
    split at h
    · split at h
      · rename_i hb
        simp only [Bool.and_eq_true] at hb
        have ha := Nat.le_of_ble_eq_true hb.1
        have hb' := Nat.le_of_ble_eq_true hb.2
        cases h
        refine ⟨_, rfl, ?_⟩
        simp only [Op.intBits, Sem.run_pure]
        congr 2
        simp only [BitVec.toNat_and, BitVec.toNat_or, BitVec.toNat_xor, BitVec.toNat_not, bv_ofNat ha, bv_ofNat hb']
        first
          | rfl
          | exact wrap_of_le (Nat.le_trans (land_le_left _ _) ha)
      · cases h
    · cases h

theorem run_intBin {P : Program} {op : BinOp} {k : IntKind} {x y : Int} {w : World} {r : AV} (hs : isShift op = false) (h : intBin op k x y = some r) :
    ∃ u, (binOp op t (.int k x) (.int k y)).run P w = .ok u w ∧ VRel σ E r u := by
  cases op
  case and => obtain ⟨n, rfl, hr⟩ := run_intBits (P := P) (w := w) (.inl rfl) h; exact ⟨_, by simp [binOp, hr], .int _ _⟩
  case or => obtain ⟨n, rfl, hr⟩ := run_intBits (P := P) (w := w) (.inr (.inl rfl)) h; exact ⟨_, by simp [binOp, hr], .int _ _⟩
  case xor => obtain ⟨n, rfl, hr⟩ := run_intBits (P := P) (w := w) (.inr (.inr (.inl rfl))) h; exact ⟨_, by simp [binOp, hr], .int _ _⟩
  case andNot => obtain ⟨n, rfl, hr⟩ := run_intBits (P := P) (w := w) (.inr (.inr (.inr rfl))) h; exact ⟨_, by simp [binOp, hr], .int _ _⟩
  case add => simp only [intBin, Option.some.injEq] at h; subst h; exact ⟨_, by simp [binOp, Op.intArith]; rfl, by rw [wrapF_eq]; exact .int _ _⟩
  case sub => simp only [intBin, Option.some.injEq] at h; subst h; exact ⟨_, by simp [binOp, Op.intArith]; rfl, by rw [wrapF_eq]; exact .int _ _⟩
  case mul => simp only [intBin, Option.some.injEq] at h; subst h; exact ⟨_, by simp [binOp, Op.intArith]; rfl, by rw [wrapF_eq]; exact .int _ _⟩
  case quo =>
    simp only [intBin] at h
    split at h
    · cases h
    · rename_i hy; cases h; exact ⟨_, by simp [binOp, Op.intDiv, hy]; rfl, by rw [wrapF_eq]; exact .int _ _⟩
  case rem =>
    simp only [intBin] at h
    split at h
    · cases h
    · rename_i hy; cases h; exact ⟨_, by simp [binOp, Op.intDiv, hy], .int _ _⟩
  case eql => simp only [intBin, Option.some.injEq] at h; subst h; exact ⟨.bool (x == y), by simp [binOp, Op.intCmp], by rw [show (x == y) = decide (x = y) from rfl]; exact .bool _⟩
  case neq => simp only [intBin, Option.some.injEq] at h; subst h; exact ⟨.bool (x != y), by simp [binOp, Op.intCmp], by rw [show (x != y) = !decide (x = y) from rfl]; exact .bool _⟩
  case lss => simp only [intBin, Option.some.injEq] at h; subst h; exact ⟨_, by simp [binOp, Op.intCmp], .bool _⟩
  case leq => simp only [intBin, Option.some.injEq] at h; subst h; exact ⟨_, by simp [binOp, Op.intCmp], .bool _⟩
  case gtr => simp only [intBin, Option.some.injEq] at h; subst h; exact ⟨_, by simp [binOp, Op.intCmp], .bool _⟩
  case geq => simp only [intBin, Option.some.injEq] at h; subst h; exact ⟨_, by simp [binOp, Op.intCmp], .bool _⟩
  all_goals cases hs

theorem run_shiftBin {P : Program} {op : BinOp} {k k' : IntKind} {x y : Int} {w : World} {r : AV} (hs : isShift op = true) (h : shiftBin op k x y = some r) :
    ∃ u, (binOp op t (.int k x) (.int k' y)).run P w = .ok u w ∧ VRel σ E r u := by
  unfold shiftBin at h
  split at h
  · cases h
  · rename_i hy
    cases op <;> first | cases hs | skip
    all_goals simp only [Option.some.injEq] at h; subst h
    · exact ⟨_, by simp [binOp, Op.shift, hy]; rfl, by rw [wrapF_eq]; exact .int _ _⟩
    · exact ⟨_, by simp [binOp, Op.shift, hy], .int _ _⟩

/-! ### Texts -/
theorem lbeq_eq : ∀ {a b : List Nat}, lbeq a b = true ↔ a = b
  | [], [] => by simp [lbeq]
  | [], _ :: _ => by simp [lbeq]
  | _ :: _, [] => by simp [lbeq]
  | x :: xs, y :: ys => by
    have ih := lbeq_eq (a := xs) (b := ys)
    simp [lbeq, ih]
theorem map_toNat_inj : ∀ {a b : List UInt8}, a.map UInt8.toNat = b.map UInt8.toNat → a = b
  | [], [], _ => rfl
  | [], _ :: _, h => by simp at h
  | _ :: _, [], h => by simp at h
  | x :: xs, y :: ys, h => by
    simp only [List.map_cons, List.cons.injEq] at h
    rw [UInt8.toNat_inj.1 h.1, map_toNat_inj h.2]
theorem lbeq_bytes {a b : List UInt8} : lbeq (a.map UInt8.toNat) (b.map UInt8.toNat) = (a == b) := by
  rw [Bool.eq_iff_iff, lbeq_eq, beq_iff_eq]
  exact ⟨map_toNat_inj, fun h => by rw [h]⟩
theorem lless_bytes : ∀ {a b : List UInt8}, lless (a.map UInt8.toNat) (b.map UInt8.toNat) = Op.bytesLess a b
  | _, [] => by cases ‹List UInt8› <;> simp [lless, Op.bytesLess]
  | [], _ :: _ => by simp [lless, Op.bytesLess]
  | x :: xs, y :: ys => by
    have ih := lless_bytes (a := xs) (b := ys)
    simp only [List.map_cons, lless, Op.bytesLess, ih]
    congr 1
    · rw [Bool.eq_iff_iff, Nat.blt_eq, decide_eq_true_eq]; exact UInt8.lt_iff_toNat_lt.symm
    · congr 1
      rw [Bool.eq_iff_iff, Nat.beq_eq, beq_iff_eq]
      exact UInt8.toNat_inj
theorem toList_data (s : ByteArray) : s.toList = s.data.toList := ByteArray.toList_eq s

theorem run_strBin {P : Program} {op : BinOp} {a b : ByteArray} {w : World} {r : AV} {x y : List Nat} (hx : a.data.toList.map UInt8.toNat = x) (hy : b.data.toList.map UInt8.toNat = y)
    (h : strBin op x y = some r) : ∃ u, (binOp op t (.string a) (.string b)).run P w = .ok u w ∧ VRel σ E r u := by
  subst hx; subst hy
  cases op <;> simp only [strBin] at h <;> first | cases h | skip
  case add =>
    split at h
    · rename_i hle
      cases h
      have hle' := Nat.le_of_ble_eq_true hle
      simp only [List.length_map, Array.length_toList] at hle'
      have : ¬ (((a.size + b.size : Nat) : Int) > IntKind.i64.max) := by
        have : IntKind.i64.max = 9223372036854775807 := by decide
        rw [this]
        have h1 : a.size = a.data.size := rfl
        have h2 : b.size = b.data.size := rfl
        omega
      refine ⟨.string (a ++ b), by simp only [binOp, Op.stringOp, if_neg this]; rfl, .str _ _ ?_⟩
      rw [ByteArray.data_append, Array.toList_append, List.map_append]
    · cases h
  all_goals
    simp only [binOp, Op.stringOp, toList_data, ← lbeq_bytes, ← lless_bytes]
    exact ⟨_, rfl, .bool _⟩

end Go.Hx
/- What an operation leaves: the forms in which it may. -/
namespace Go.Hx
open Go
variable {σ : Nat → Value} {B : Nat} {E E' : Emb} {g : Nat → Option AO} {w w' : World} {nid : Nat}

/-- What stands behind one operation: its value, the objects, what was kept. -/
structure SPost (σ : Nat → Value) (B : Nat) (E : Emb) (g : Nat → Option AO) (w : World) (nid : Nat) (r : AV) (ws : Ws) (u : Value) (w' : World) (E' : Emb) : Prop where
  val : VRel σ E' r u
  heap : HObj σ B E' (upd g ws) w'
  keep : ∀ id, id ≠ nid → E' id = E id
  le : Emb.le E E'
  size : w.heap.size ≤ w'.heap.size
  frame : ∀ b, b < w.heap.size → (∀ id o x, g id = some o → E id = some x → x.1 ≠ b) → w'.heap[b]? = w.heap[b]?
  os : w'.os = w.os
  tape : w'.tape = w.tape
  out : w'.output = w.output
  new : ∀ x, E' nid = some x → B ≤ x.1 ∧ (w.heap.size ≤ x.1 ∨ ∃ i o y, g i = some o ∧ E i = some y ∧ y.1 = x.1)
  dom : ∀ id o, upd g ws id = some o → id = nid ∨ ∃ o', g id = some o'
  same : ws = [] → E' = E

/-- Draws alone. -/
structure Drew (w w' : World) : Prop where
  heap : w'.heap = w.heap
  os : w'.os = w.os
  tape : w'.tape = w.tape
  out : w'.output = w.output
theorem Drew.refl (w : World) : Drew w w := ⟨rfl, rfl, rfl, rfl⟩
theorem Drew.drew (w : World) : Drew w w.drew := ⟨rfl, rfl, rfl, rfl⟩

theorem SPost.pure (H : HObj σ B E g w) (hn : E nid = none) {r : AV} {u : Value} (hr : VRel σ E r u) (hd : Drew w w') : SPost σ B E g w nid r [] u w' E where
  val := hr
  heap := H.heap hd.heap
  keep _ _ := rfl
  le := Emb.le.refl E
  size := by rw [hd.heap]; exact Nat.le_refl _
  frame _ _ _ := by rw [hd.heap]
  os := hd.os
  tape := hd.tape
  out := hd.out
  new x hx := by rw [hn] at hx; cases hx
  dom id o h := .inr ⟨o, h⟩
  same _ := rfl

/-- A new object in a new block. -/
theorem SPost.alloc (H : HObj σ B E g w) (hn : E nid = none) (hB : B ≤ w.heap.size) {ob : Obj} (hw : w'.heap = w.heap.push ob) (hos : w'.os = w.os) (ht : w'.tape = w.tape) (hout : w'.output = w.output)
    {base size : Nat} {o : AO} {r : AV} {u : Value} (hr : VRel σ (E.put nid (w.heap.size, base, size)) r u)
    (ho : ORel σ (E.put nid (w.heap.size, base, size)) (w.heap.size, base, size) o (some ob)) :
    SPost σ B E g w nid r [(nid, some o)] u w' (E.put nid (w.heap.size, base, size)) where
  val := hr
  heap := H.alloc hn hw hB ho
  keep _ h := Emb.put_other h
  le := Emb.le_put hn
  size := by rw [hw]; simp
  frame b hb _ := by rw [hw, Array.getElem?_push, if_neg (by omega)]
  os := hos
  tape := ht
  out := hout
  new x hx := by
    rw [Emb.put_same] at hx
    cases hx
    exact ⟨hB, .inl (Nat.le_refl _)⟩
  dom id o' h := by
    by_cases e : id = nid
    · exact .inl e
    · exact .inr ⟨o', by simpa [upd, upd1, e] using h⟩
  same h := by cases h

/-- An object is written in place. -/
theorem SPost.write (H : HObj σ B E g w) (hn : E nid = none) {id : Nat} {o₀ o : AO} {x : Nat × Nat × Nat} (h0 : g id = some o₀) (hx : E id = some x)
    (hz : w'.heap.size = w.heap.size) (hw : ∀ b, b ≠ x.1 → w'.heap[b]? = w.heap[b]?) (hos : w'.os = w.os) (ht : w'.tape = w.tape) (hout : w'.output = w.output)
    (ho : ORel σ E x o w'.heap[x.1]?) {r : AV} {u : Value} (hr : VRel σ E r u) : SPost σ B E g w nid r [(id, some o)] u w' E where
  val := hr
  heap := H.write h0 hx (by omega) (fun b hb _ => hw b hb) ho
  keep _ _ := rfl
  le := Emb.le.refl E
  size := by omega
  frame b _ hf := hw b (fun e => hf id o₀ x h0 hx e.symm)
  os := hos
  tape := ht
  out := hout
  new x hx := by rw [hn] at hx; cases hx
  dom i o' h := by
    by_cases e : i = id
    · exact .inr ⟨o₀, e ▸ h0⟩
    · exact .inr ⟨o', by simpa [upd, upd1, e] using h⟩
  same _ := rfl

/-- An object whose row is taken over by the new one. -/
theorem SPost.move (H : HObj σ B E g w) (hn : E nid = none) {id : Nat} {o₀ o : AO} {x : Nat × Nat × Nat} {base size : Nat} (h0 : g id = some o₀) (hx : E id = some x) (hB : B ≤ x.1)
    (hz : w'.heap.size = w.heap.size) (hw : ∀ b, b ≠ x.1 → w'.heap[b]? = w.heap[b]?) (hos : w'.os = w.os) (ht : w'.tape = w.tape) (hout : w'.output = w.output)
    (ho : ORel σ (E.put nid (x.1, base, size)) (x.1, base, size) o w'.heap[x.1]?) {r : AV} {u : Value} (hr : VRel σ (E.put nid (x.1, base, size)) r u) :
    SPost σ B E g w nid r [(id, none), (nid, some o)] u w' (E.put nid (x.1, base, size)) := by
  have hne : id ≠ nid := fun e => by rw [e, hn] at hx; cases hx
  have he : Emb.le E (E.put nid (x.1, base, size)) := Emb.le_put hn
  have hold : ∀ i o', i ≠ nid → upd g [(id, none), (nid, some o)] i = some o' → i ≠ id ∧ g i = some o' := by
    intro i o' hi h
    simp only [upd, upd1, if_neg hi] at h
    by_cases e : i = id
    · rw [if_pos e] at h; cases h
    · rw [if_neg e] at h; exact ⟨e, h⟩
  refine ⟨hr, ⟨fun i o' h => ?_, fun i j oi oj a b hi hj ha hb hab => ?_⟩, fun _ h => Emb.put_other h, he, by omega, fun b _ hf => hw b (fun e => hf id o₀ x h0 hx e.symm), hos, ht, hout, fun y hy => ?_, fun i o' h => ?_, fun h => by cases h⟩
  · by_cases e : i = nid
    · subst e
      have : o' = o := by simpa [upd, upd1] using h.symm
      subst this
      obtain ⟨x', a, b, c, d⟩ := H.obj id o₀ h0
      have hxx : x' = x := Option.some.inj (a.symm.trans hx)
      subst hxx
      exact ⟨_, Emb.put_same, hB, by rw [hz]; exact c, ho⟩
    · obtain ⟨hne', hg⟩ := hold i o' e h
      obtain ⟨y, a, b, c, d⟩ := H.obj i o' hg
      have hb : y.1 ≠ x.1 := fun hh => hne' (H.inj i id o' o₀ y x hg h0 a hx hh)
      exact ⟨y, he _ _ a, b, by rw [hz]; exact c, by rw [hw _ hb]; exact d.mono he⟩
  · have key : ∀ k ok z, upd g [(id, none), (nid, some o)] k = some ok → (E.put nid (x.1, base, size)) k = some z → k ≠ nid → E k = some z ∧ g k = some ok ∧ z.1 ≠ x.1 := by
      intro k ok z hk hzz hkn
      obtain ⟨hne', hg⟩ := hold k ok hkn hk
      have hz' : E k = some z := by rw [Emb.put_other hkn] at hzz; exact hzz
      exact ⟨hz', hg, fun hh => hne' (H.inj k id ok o₀ z x hg h0 hz' hx hh)⟩
    by_cases ei : i = nid
    · by_cases ej : j = nid
      · rw [ei, ej]
      · exfalso
        have h1 : a = (x.1, base, size) := by rw [ei, Emb.put_same] at ha; exact (Option.some.inj ha).symm
        exact (key j oj b hj hb ej).2.2 (by rw [← hab, h1])
    · by_cases ej : j = nid
      · exfalso
        have h1 : b = (x.1, base, size) := by rw [ej, Emb.put_same] at hb; exact (Option.some.inj hb).symm
        exact (key i oi a hi ha ei).2.2 (by rw [hab, h1])
      · obtain ⟨h1, h2, _⟩ := key i oi a hi ha ei
        obtain ⟨h3, h4, _⟩ := key j oj b hj hb ej
        exact H.inj i j oi oj a b h2 h4 h1 h3 hab
  · rw [Emb.put_same] at hy
    cases hy
    exact ⟨hB, .inr ⟨id, o₀, x, h0, hx, rfl⟩⟩
  · by_cases e : i = nid
    · exact .inl e
    · exact .inr ⟨o', (hold i o' e h).2⟩

/-- What is asked of one operation. -/
def Does (P : Program) (σ : Nat → Value) (B : Nat) (E : Emb) (g : Nat → Option AO) (w : World) (nid : Nat) (out : List (AV × Ws)) (s : Sem Value) : Prop :=
  ∃ r ws u w' E', (r, ws) ∈ out ∧ s.run P w = .ok u w' ∧ SPost σ B E g w nid r ws u w' E'

theorem Does.pure {P : Program} (H : HObj σ B E g w) (hn : E nid = none) {s : Sem Value} {v : Option AV} (h : ones v ≠ []) (hs : ∀ r, v = some r → ∃ u w', s.run P w = .ok u w' ∧ Drew w w' ∧ VRel σ E r u) :
    Does P σ B E g w nid (ones v) s := by
  cases v with
  | none => exact absurd rfl h
  | some r =>
    obtain ⟨u, w', hrun, hd, hr⟩ := hs r rfl
    exact ⟨r, [], u, w', E, List.mem_cons_self, hrun, SPost.pure H hn hr hd⟩

/-! ### Objects, looked at -/
theorem HObj.cells (H : HObj σ B E g w) {id : Nat} {cs : T AV} {lo : Nat} {closed : Bool} (h : g id = some (.cells cs lo closed)) :
    ∃ b base size c elem frz, E id = some (b, base, size) ∧ B ≤ b ∧ b < w.heap.size ∧ w.heap[b]? = some (.cells c elem frz) ∧ c.size = size ∧ base + lo ≤ size ∧ (closed = true → base + lo = size ∧ base = 0) ∧
      (∀ i v, cs.get i = some v → i < lo ∧ ∃ u, c[base + i]? = some u ∧ VRel σ E v u ∧ u.oneCell' = true) ∧ (∀ off, base ≤ off → off < size → ¬ (frz.1 ≤ off ∧ off < frz.2)) := by
  obtain ⟨⟨b, base, size⟩, hx, hB, hlt, c, elem, frz, h1, h2, h3, h4, h5, h6⟩ := H.obj id _ h
  exact ⟨b, base, size, c, elem, frz, hx, hB, hlt, h1, h2, h3, h4, h5, h6⟩
theorem cell_at {b i : Nat} {c : Array Value} {elem : TypeId} {frz : Nat × Nat} (h : w.heap[b]? = some (.cells c elem frz)) : w.cell? ⟨b, i, none⟩ = c[i]? := by
  simp [World.cell?, h]
theorem frozen_at {b i : Nat} {c : Array Value} {elem : TypeId} {frz : Nat × Nat} (h : w.heap[b]? = some (.cells c elem frz)) (hf : ¬ (frz.1 ≤ i ∧ i < frz.2)) : w.frozen? ⟨b, i, none⟩ = false := by
  obtain ⟨lo, hi⟩ := frz
  simp only [World.frozen?, h]
  simpa using hf
theorem add_addr (b o n : Nat) : (Addr.add ⟨b, o, none⟩ n) = ⟨b, o + n, none⟩ := by
  unfold Addr.add
  split
  · rename_i h; subst h; rfl
  · rfl
end Go.Hx
/- Rows of cells: how tries and blocks go together. -/
namespace Go.Hx
open Go
variable {σ : Nat → Value} {B : Nat} {E E' : Emb} {g : Nat → Option AO} {w w' : World} {nid : Nat} {P : Program}

theorem T.get_put1 {α : Type} {R : Type} (t : T α) (n : Nat) (a : Option α) (k : T α → R) : T.put (n + 1) t n a k = k (T.set (n + 1) t n a) := T.put_eq _ _ _ _ _
theorem T.get_set1 {α : Type} (t : T α) (n m : Nat) (a : Option α) : (T.set (n + 1) t n a).get m = if m = n then a else t.get m :=
  T.get_set _ _ _ _ _ (by have := Nat.lt_two_pow_self (n := n + 1); omega)

theorem ofListFrom_nil (i : Nat) (t : T AV) : ofListFrom [] i t = t := rfl
theorem ofListFrom_cons (v : AV) (l : List AV) (i : Nat) (t : T AV) : ofListFrom (v :: l) i t = ofListFrom l (i + 1) (T.set (i + 1) t i (some v)) := by
  show force i (fun i => T.put (i + 1) t i (some v) fun t => ofListFrom l (Nat.succ i) t) = _
  rw [force_eq, T.get_put1]
theorem ofListFrom_get : ∀ (l : List AV) (i : Nat) (t : T AV) (m : Nat), (ofListFrom l i t).get m = if i ≤ m ∧ m < i + l.length then l[m - i]? else t.get m
  | [], i, t, m => by rw [ofListFrom_nil, if_neg (by simp)]
  | v :: l, i, t, m => by
    rw [ofListFrom_cons, ofListFrom_get l (i + 1), T.get_set1]
    simp only [List.length_cons]
    by_cases h1 : i + 1 ≤ m ∧ m < i + 1 + l.length
    · rw [if_pos h1, if_pos (by omega)]
      have : m - i = (m - (i + 1)) + 1 := by omega
      rw [this]; simp
    · rw [if_neg h1]
      by_cases h2 : m = i
      · subst h2; rw [if_pos rfl, if_pos (by omega)]; simp
      · rw [if_neg h2, if_neg (by omega)]
theorem ofList_get (l : List AV) (m : Nat) : (ofList l).get m = l[m]? := by
  unfold ofList
  rw [ofListFrom_get]
  by_cases h : m < l.length
  · rw [if_pos (by omega)]; simp
  · rw [if_neg (by omega), T.get_nil, List.getElem?_eq_none (by omega)]
theorem putList_get (t : T AV) (off : Nat) (l : List AV) (m : Nat) : (putList t off l).get m = if off ≤ m ∧ m < off + l.length then l[m - off]? else t.get m := ofListFrom_get _ _ _ _

theorem getRange_zero (t : T AV) (off : Nat) : getRange t off 0 = some [] := rfl
theorem getRange_succ (t : T AV) (off n : Nat) : getRange t off (n + 1) = match t.get off, getRange t (off + 1) n with
    | some v, some l => some (v :: l)
    | _, _ => none := rfl
theorem getRange_spec : ∀ (n off : Nat) (t : T AV) (l : List AV), getRange t off n = some l → l.length = n ∧ ∀ j v, l[j]? = some v → t.get (off + j) = some v
  | 0, off, t, l, h => by rw [getRange_zero] at h; cases h; simp
  | n + 1, off, t, l, h => by
    rw [getRange_succ] at h
    split at h
    · rename_i v l' hv hl
      cases h
      obtain ⟨h1, h2⟩ := getRange_spec n (off + 1) t l' hl
      refine ⟨by simp [h1], fun j u hj => ?_⟩
      cases j with
      | zero => simp at hj; subst hj; exact hv
      | succ j => have := h2 j u (by simpa using hj); rw [show off + (j + 1) = off + 1 + j by omega]; exact this
    · cases h

theorem moved_zero (t : T AV) (off : Nat) : moved t off 0 = .nil := rfl
theorem moved_succ (t : T AV) (off m : Nat) : moved t off (m + 1) = match t.get (off + m) with
    | some v => T.set (m + 1) (moved t off m) m (some v)
    | none => moved t off m := by
  show (match t.get (off + m) with
      | some v => T.put (m + 1) (moved t off m) m (some v) id
      | none => moved t off m) = _
  rfl
theorem moved_get (t : T AV) (off : Nat) : ∀ (n i : Nat), (moved t off n).get i = if i < n then t.get (off + i) else none
  | 0, i => by rw [moved_zero, T.get_nil, if_neg (by omega)]
  | n + 1, i => by
    rw [moved_succ]
    split
    · rename_i v hv
      rw [T.get_set1, moved_get t off n i]
      by_cases h1 : i = n
      · subst h1; rw [if_pos rfl, if_pos (by omega), hv]
      · rw [if_neg h1]
        by_cases h2 : i < n
        · rw [if_pos h2, if_pos (by omega)]
        · rw [if_neg h2, if_neg (by omega)]
    · rename_i hv
      rw [moved_get t off n i]
      by_cases h2 : i < n
      · rw [if_pos h2, if_pos (by omega)]
      · rw [if_neg h2]
        by_cases h1 : i = n
        · subst h1; rw [if_pos (by omega), hv]
        · rw [if_neg (by omega)]

/-! ### Writing -/
def setMany (c : Array Value) (o : Nat) : List Value → Array Value
  | [] => c
  | v :: vs => setMany (c.setIfInBounds o v) (o + 1) vs
theorem setMany_size : ∀ (vs : List Value) (c : Array Value) (o : Nat), (setMany c o vs).size = c.size
  | [], _, _ => rfl
  | v :: vs, c, o => by rw [setMany, setMany_size]; simp
theorem setMany_get : ∀ (vs : List Value) (c : Array Value) (o i : Nat), o + vs.length ≤ c.size → (setMany c o vs)[i]? = if o ≤ i ∧ i < o + vs.length then vs[i - o]? else c[i]?
  | [], c, o, i, _ => by rw [setMany, if_neg (by simp)]
  | v :: vs, c, o, i, h => by
    simp only [List.length_cons] at h
    rw [setMany, setMany_get vs _ _ _ (by simp; omega)]
    simp only [List.length_cons]
    by_cases h1 : o + 1 ≤ i ∧ i < o + 1 + vs.length
    · rw [if_pos h1, if_pos (by omega)]
      have : i - o = (i - (o + 1)) + 1 := by omega
      rw [this]; simp
    · rw [if_neg h1]
      by_cases h2 : i = o
      · subst h2; rw [if_pos (by omega)]
        rw [Array.getElem?_setIfInBounds_self_of_lt (by omega)]; simp
      · rw [if_neg (by omega), Array.getElem?_setIfInBounds_ne (by omega)]

/-- One block is another one now. -/
structure Wrote (w : World) (b : Nat) (ob : Obj) (w' : World) : Prop where
  size : w'.heap.size = w.heap.size
  at_ : w'.heap[b]? = some ob
  other : ∀ k, k ≠ b → w'.heap[k]? = w.heap[k]?
  os : w'.os = w.os
  tape : w'.tape = w.tape
  out : w'.output = w.output

theorem run_storeCells (b o : Nat) (elem : TypeId) (frz : Nat × Nat) : ∀ (vs : List Value) (i : Nat) (c : Array Value) (w : World), w.heap[b]? = some (.cells c elem frz) → o + i + vs.length ≤ c.size →
    (∀ v ∈ vs, v.oneCell' = true) → (∀ j, o + i ≤ j → j < o + i + vs.length → ¬ (frz.1 ≤ j ∧ j < frz.2)) →
    ∃ w', (storeCells ⟨b, o, none⟩ vs i).run P w = .ok () w' ∧ Wrote w b (.cells (setMany c (o + i) vs) elem frz) w'
  | [], i, c, w, h, _, _, _ => ⟨w, by simp [storeCells], rfl, h, fun _ _ => rfl, rfl, rfl, rfl⟩
  | v :: vs, i, c, w, h, hs, h1, hf => by
    simp only [List.length_cons] at hs hf
    have hcell : w.cell? ⟨b, o + i, none⟩ = c[o + i]? := cell_at h
    have hlt : o + i < c.size := by omega
    have hfr : w.frozen? ⟨b, o + i, none⟩ = false := frozen_at h (hf _ (Nat.le_refl _) (by omega))
    have hset : (w.setCell ⟨b, o + i, none⟩ v).heap[b]? = some (.cells (c.setIfInBounds (o + i) v) elem frz) := by
      simp only [World.setCell, Array.getElem?_modify, if_true, h, Option.map_some]; rfl
    obtain ⟨w', hr, hw⟩ := run_storeCells b o elem frz vs (i + 1) (c.setIfInBounds (o + i) v) (w.setCell ⟨b, o + i, none⟩ v) hset (by simp; omega) (fun u hu => h1 u (List.mem_cons_of_mem _ hu)) (fun j hj hj' => hf j (by omega) (by omega))
    refine ⟨w', ?_, ?_⟩
    · simp only [storeCells, Sem.run_bind, add_addr]
      rw [run_store P w _ v _ (h1 v List.mem_cons_self), hcell, Array.getElem?_eq_getElem hlt]
      simp only [hfr, Bool.false_eq_true, if_false, Result.andThen]
      exact hr
    · refine ⟨by rw [hw.size]; simp, ?_, fun k hk => ?_, hw.os, hw.tape, hw.out⟩
      · rw [hw.at_]; simp [setMany, Nat.add_assoc]
      · rw [hw.other k hk]
        simp only [World.setCell, Array.getElem?_modify]
        rw [if_neg (by omega)]

theorem allOne_spec {l : List AV} (h : allOne l = true) : ∀ v ∈ l, v.one = true := by
  induction l with
  | nil => intro v hv; cases hv
  | cons x xs ih =>
    simp only [allOne, Bool.and_eq_true] at h
    intro v hv
    cases hv with
    | head => exact h.1
    | tail _ hv => exact ih h.2 v hv
theorem VRels.ones (hσ : OneOpq σ) {l : List AV} {us : List Value} (h : VRels σ E l us) (h1 : allOne l = true) : ∀ u ∈ us, u.oneCell' = true := by
  induction l generalizing us with
  | nil => cases h; intro u hu; cases hu
  | cons v vs ih =>
    cases h with
    | cons _ u _ us' hv hs =>
      simp only [allOne, Bool.and_eq_true] at h1
      intro x hx
      cases hx with
      | head => exact hv.one hσ h1.1
      | tail _ hx => exact ih hs h1.2 x hx
/-- A value's cells. -/
theorem VRel.cells (hσ : OneOpq σ) {v : AV} {u : Value} (h : VRel σ E v u) (hv : allOne (cellsOf v) = true) : VRels σ E (cellsOf v) u.cells.toList := by
  cases h with
  | agg cs c hs => exact hs
  | opq i =>
    have h1 := hσ i
    have : (σ i).cells = #[σ i] := by
      cases hh : σ i <;> first | rfl | (rw [hh] at h1; simp [Value.oneCell'] at h1)
    rw [this]; exact .cons _ _ _ _ (.opq i) .nil
  | tup vs c hs => simp [cellsOf, allOne, AV.one] at hv
  | bool b => exact .cons _ _ _ _ (.bool b) .nil
  | int k n => exact .cons _ _ _ _ (.int k n) .nil
  | str l s h => exact .cons _ _ _ _ (.str l s h) .nil
  | nilp => exact .cons _ _ _ _ .nilp .nil
  | ptr id off b base size h => exact .cons _ _ _ _ (.ptr id off b base size h) .nil
  | gptr a b => exact .cons _ _ _ _ (.gptr a b) .nil
  | nils => exact .cons _ _ _ _ .nils .nil
  | slice id off len es cap b base size c h hc hl => exact .cons _ _ _ _ (.slice id off len es cap b base size c h hc hl) .nil
  | slice0 id off es b base size a h hs => exact .cons _ _ _ _ (.slice0 id off es b base size a h hs) .nil
  | slice00 id off es b base size a h => exact .cons _ _ _ _ (.slice00 id off es b base size a h) .nil
  | nilm => exact .cons _ _ _ _ .nilm .nil
  | map id b base size h => exact .cons _ _ _ _ (.map id b base size h) .nil
  | func f fs cs a c ha hc => exact .cons _ _ _ _ (.func f fs cs a c ha hc) .nil
  | nilf => exact .cons _ _ _ _ .nilf .nil
  | iface t v u h => exact .cons _ _ _ _ (.iface t v u h) .nil
  | nili => exact .cons _ _ _ _ .nili .nil

/-- A row of cells that is known whole. -/
theorem orel_row (hσ : OneOpq σ) {l : List AV} {c : Array Value} (h : VRels σ E l c.toList) (h1 : allOne l = true) (b : Nat) (elem : TypeId) (closed : Bool) :
    ORel σ E (b, 0, c.size) (.cells (ofList l) l.length closed) (some (.cells c elem (0, 0))) := by
  have hl := h.length
  simp only [Array.length_toList] at hl
  refine ⟨c, elem, (0, 0), rfl, rfl, by simp [hl], fun _ => by simp [hl], fun i v hv => ?_, fun off _ _ => by simp⟩
  rw [ofList_get] at hv
  obtain ⟨u, hu, hr⟩ := h.get hv
  have hlt : i < l.length := by
    rcases Nat.lt_or_ge i l.length with h' | h'
    · exact h'
    · rw [List.getElem?_eq_none h'] at hv; cases hv
  have hone : v.one = true := allOne_spec h1 v (List.mem_of_getElem? hv)
  exact ⟨hlt, u, by simpa using hu, hr, hr.one hσ hone⟩
end Go.Hx
