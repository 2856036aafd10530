/- One operation: append. -/
import Derived.Test.YtdbdebcakemmbaaGreatDoorHxSmallI
import Derived.Laws.Append
namespace Go.Hx
open Go
variable {σ : Nat → Value} {B : Nat} {E E' : Emb} {g : Nat → Option AO} {w w' : World} {nid : Nat} {P : Program} {ot : MOp → List AV → Option AV} {gm : Nat → Nat → Option AV}

/-- What append is told of its second operand: how many elements, which cells. -/
structure Src (P : Program) (e : TypeId) (i : TypeInfo) (w : World) (ts : Array TypeId) (x : Value) (m : Nat) (us : List Value) : Prop where
  zeros : (∃ k, (ts[1]?).bind P.underlying = some (.int k)) ∧ (ts[1]?).isSome = true ∧ (∃ k, x = .int k (.ofNat m)) ∧ m ≤ 4294967296 ∧ (∃ z, i.zero = some z ∧ us.toArray = Builtin.zeroCells z.cells m ∧ (m * i.size = 0 → us = [])) ∨
    ((ts[1]? = none ∨ ∃ t d, ts[1]? = some t ∧ P.underlying t = some d ∧ ∀ k, d ≠ .int k) ∧ (Builtin.lenOf x).run P w = .ok m w ∧ ∀ w', w'.heap = w.heap → (Builtin.firstCells i.size m x).run P w' = .ok us.toArray w')

theorem cell_heap (h : w'.heap = w.heap) (a : Addr) : w'.cell? a = w.cell? a := by simp [World.cell?, h]

theorem run_append_fit {ts : Array TypeId} {t e ty : TypeId} {i : TypeInfo} (h0 : ts[0]? = some t) (ht : P.underlying t = some (.slice e)) (hi : P.info? e = some i) {base : Option Addr} {sLen sCap m : Nat} {x : Value} {us : List Value} (hs : Src P e i w ts x m us)
    (hmb : m * i.bytes ≤ 281474976710656) (hle : sLen + m ≤ sCap) {w' : World} (hst : (match base with | some a => storeCells (a.add (sLen * i.size)) us | none => Pure.pure ()).run P w = .ok () w') :
    (Builtin.append_ ts ty #[.slice base sLen sCap, x]).run P w = .ok (.slice base (sLen + m) sCap) w' := by
  have hsz : ∀ w, (sizeOf e).run P w = .ok i.size w := fun w => by simp [sizeOf, run_typeInfo _ hi]
  rcases hs.zeros with ⟨⟨k, hk⟩, h1, ⟨k', rfl⟩, hm, z, hz, hus, h00⟩ | ⟨hk, hl, hf⟩
  · obtain ⟨xt, hxt⟩ := Option.isSome_iff_exists.1 h1
    rw [hxt] at hk
    simp only [Option.bind_some] at hk
    have hw : IntKind.i64.wrap (m : Int) = (m : Int) := wrap_of_le (m := m) (by simp only [kmax]; omega)
    have hn0 : ¬ ((m : Int) < 0) := by omega
    have hn1 : ¬ (281474976710656 < (m : Int) * (i.bytes : Int)) := by have h := Int.ofNat_le.mpr hmb; rw [Int.natCast_mul] at h; exact Int.not_lt.2 h
    have hz' : ∀ w, (zeroValue e).run P w = .ok z w := fun w => by simp [zeroValue, run_typeInfo _ hi, hz]
    by_cases hz0 : m * i.size = 0
    · have hnil := h00 hz0
      subst hnil
      cases base with
      | none => simp at hst; subst hst; simp [Builtin.append_, h0, hxt, run_underlying ht, run_underlying hk, hsz, asInt, asIntOf, hw, hn0, run_typeInfo _ hi, hn1, hle, hz0]
      | some a => simp [Builtin.append_, h0, hxt, run_underlying ht, run_underlying hk, hsz, asInt, asIntOf, hw, hn0, run_typeInfo _ hi, hn1, hle, hz0, hst]
    · cases base with
      | none => simp at hst; subst hst; simp [Builtin.append_, h0, hxt, run_underlying ht, run_underlying hk, hsz, asInt, asIntOf, hw, hn0, run_typeInfo _ hi, hn1, hle, hz0, hz']
      | some a => simp [Builtin.append_, h0, hxt, run_underlying ht, run_underlying hk, hsz, asInt, asIntOf, hw, hn0, run_typeInfo _ hi, hn1, hle, hz0, hz', ← hus, hst]
  · have hfw := hf w rfl
    rcases hk with hk | ⟨xt, d, hxt, hd, hne⟩
    · cases base with
      | none => simp at hst; subst hst; simp [Builtin.append_, h0, hk, run_underlying ht, hsz, hl, hle, hfw]
      | some a => simp [Builtin.append_, h0, hk, run_underlying ht, hsz, hl, hle, hfw, hst]
    · have hb : (d matches .int _) = false := by cases d <;> first | rfl | exact absurd rfl (hne _)
      cases base with
      | none => simp at hst; subst hst; simp [Builtin.append_, h0, hxt, run_underlying hd, hb, run_underlying ht, hsz, hl, hle, hfw]
      | some a => simp [Builtin.append_, h0, hxt, run_underlying hd, hb, run_underlying ht, hsz, hl, hle, hfw, hst]
theorem run_append_grow' {ts : Array TypeId} {t e ty : TypeId} {i : TypeInfo} {z : Value} (h0 : ts[0]? = some t) (ht : P.underlying t = some (.slice e)) (hi : P.info? e = some i) (hz : i.zero = some z) {base : Option Addr} {sLen sCap m : Nat} {x : Value} {us os : List Value} (hs : Src P e i w ts x m us)
    (hb1 : 1 ≤ i.bytes) (hmb : (sLen + m) * i.bytes ≤ 140737488355328) (hlt : sCap < sLen + m) (hold : ∀ w', w'.heap = w.heap → (Builtin.firstCells i.size sLen (.slice base sLen sCap)).run P w' = .ok os.toArray w') :
    ∃ nc, sLen + m ≤ nc ∧ (Builtin.append_ ts ty #[.slice base sLen sCap, x]).run P w = .ok (.slice (some ⟨w.heap.size, 0, none⟩) (sLen + m) nc) (w.drew.alloc (.cells (os.toArray ++ (us.toArray ++ Builtin.zeroCells z.cells (nc - (sLen + m)))) e)) := by
  have hsz : ∀ w, (sizeOf e).run P w = .ok i.size w := fun w => by simp [sizeOf, run_typeInfo _ hi]
  have hti : ∀ w, (typeInfo e).run P w = .ok i w := fun w => run_typeInfo _ hi
  have hzv : ∀ w, (zeroValue e).run P w = .ok z w := fun w => by simp [zeroValue, run_typeInfo _ hi, hz]
  have hneed : sLen + m ≤ 140737488355328 := Nat.le_trans (Nat.le_mul_of_pos_right _ hb1) hmb
  have hgrow := growslice_fits hlt hmb
  have n1 : ¬ (281474976710656 < Builtin.nextslicecap (sLen + m) sCap * i.bytes) := by omega
  have n2 : ¬ (sLen + m ≤ sCap) := by omega
  have n3 : ¬ ((sLen : Int) + (m : Int) > 9223372036854775807) := by omega
  have hwd : w.drew.heap = w.heap := rfl
  refine ⟨(Question.appendCap (sLen + m) sCap e).cut (w.tape w.drawn (.appendCap (sLen + m) sCap e)), by simp [Question.cut], ?_⟩
  have hforced : (Question.appendCap (sLen + m) sCap e).forced = false := rfl
  have hmax : IntKind.i64.max = 9223372036854775807 := by decide
  rcases hs.zeros with ⟨⟨k, hk⟩, h1, ⟨k', rfl⟩, hm, z', hz', hus, h00⟩ | ⟨hk, hl, hf⟩
  · obtain ⟨xt, hxt⟩ := Option.isSome_iff_exists.1 h1
    rw [hxt] at hk
    simp only [Option.bind_some] at hk
    have hzz : z' = z := Option.some.inj (hz'.symm.trans hz)
    subst hzz
    have hw : IntKind.i64.wrap (m : Int) = (m : Int) := wrap_of_le (m := m) (by simp only [kmax]; omega)
    have hn0 : ¬ ((m : Int) < 0) := by omega
    have hmb' : m * i.bytes ≤ 281474976710656 := Nat.le_trans (Nat.mul_le_mul_right _ (Nat.le_add_left m sLen)) (by omega)
    have hn1 : ¬ (281474976710656 < (m : Int) * (i.bytes : Int)) := by have h := Int.ofNat_le.mpr hmb'; rw [Int.natCast_mul] at h; exact Int.not_lt.2 h
    by_cases hz0 : m * i.size = 0
    · have hnil := h00 hz0
      subst hnil
      simp [Builtin.append_, h0, hxt, run_underlying ht, run_underlying hk, hsz, asInt, asIntOf, hw, hn0, hti, hn1, n2, hz0, n1, n3, hmax, hforced, hold w.drew hwd, hzv, newRow]
    · simp [Builtin.append_, h0, hxt, run_underlying ht, run_underlying hk, hsz, asInt, asIntOf, hw, hn0, hti, hn1, n2, hz0, n1, n3, hmax, hforced, hold w.drew hwd, hzv, newRow, ← hus]
  · have hfw := hf w.drew hwd
    rcases hk with hk | ⟨xt, d, hxt, hd, hne⟩
    · simp [Builtin.append_, h0, hk, run_underlying ht, hsz, hl, hti, n2, n1, n3, hmax, hforced, hold w.drew hwd, hfw, hzv, newRow]
    · have hb : (d matches .int _) = false := by cases d <;> first | rfl | exact absurd rfl (hne _)
      simp [Builtin.append_, h0, hxt, run_underlying hd, hb, run_underlying ht, hsz, hl, hti, n2, n1, n3, hmax, hforced, hold w.drew hwd, hfw, hzv, newRow]
/-- Which second operand an append has. -/
def SrcKind (P : Program) (e : TypeId) (ts : Array TypeId) : Option (List AV) → Prop
  | some zs => (∃ k, (ts[1]?).bind P.underlying = some (.int k)) ∧ (ts[1]?).isSome = true ∧ ∃ z, tzero P e = some z ∧ zs = cellsOf z
  | none => ts[1]? = none ∨ ∃ t d, ts[1]? = some t ∧ P.underlying t = some d ∧ ∀ k, d ≠ .int k
theorem slice_src (H : HObj σ B E g w) {id off len es : Nat} {es' : Nat} {cap : Option Nat} {cs : T AV} {lo : Nat} {closed : Bool} {l : List AV} {x : Value} (hgo : g id = some (.cells cs lo closed)) (hx : VRel σ E (.slice id off len es' cap) x) (n : Nat) (hn : n ≤ len) (hl : getRange cs off (n * es) = some l) :
    ∃ us, VRels σ E l us ∧ (∀ w', w'.heap = w.heap → (Builtin.firstCells es n x).run P w' = .ok us.toArray w') := by
  obtain ⟨hlen, hget⟩ := getRange_spec _ _ _ _ hl
  obtain ⟨b, base, size, c, elem, frz, hE, _, _, hbk, hsz, hlo, _, hcs, _⟩ := H.cells hgo
  have fin : ∀ (a : Addr) (cp k : Nat), (∀ (j : Nat) (v : AV), l[j]? = some v → ∃ u, w.cell? (a.add j) = some u ∧ VRel σ E v u) → ∃ us, VRels σ E l us ∧ (∀ w', w'.heap = w.heap → (Builtin.firstCells es n (.slice (some a) k cp)).run P w' = .ok us.toArray w') := by
    intro a cp k hcell
    obtain ⟨us, hrels, _, hc2⟩ := cells_list (P := P) hlen hcell
    refine ⟨us, hrels, fun w' hw' => ?_⟩
    have := run_loadCells_list (P := P) w' a us (fun j v hj => by rw [cell_heap hw']; exact hc2 j v hj)
    rw [← hrels.length, hlen] at this
    simpa [Builtin.firstCells] using this
  cases hx with
  | slice _ _ _ _ _ b' base' size' c' hE' hcap hle =>
    have e : (b', base', size') = (b, base, size) := Option.some.inj (hE'.symm.trans hE)
    simp only [Prod.mk.injEq] at e
    obtain ⟨rfl, rfl, rfl⟩ := e
    exact fin _ _ _ fun j v hj => by
      obtain ⟨_, u, hu, hrel, _⟩ := hcs _ v (hget j v hj)
      exact ⟨u, by rw [add_addr, cell_at hbk, Nat.add_assoc]; exact hu, hrel⟩
  | slice0 _ _ _ b' base' size' a hE' hs0 =>
    have hn0 : n = 0 := by omega
    subst hn0
    exact fin _ _ _ fun j v hj => by
      have : l = [] := List.eq_nil_of_length_eq_zero (by simpa using hlen)
      rw [this] at hj; simp at hj
  | slice00 _ _ _ _ _ _ a _ =>
    have hn0 : n = 0 := by omega
    subst hn0
    exact fin _ _ _ fun j v hj => by
      have : l = [] := List.eq_nil_of_length_eq_zero (by simpa using hlen)
      rw [this] at hj; simp at hj
theorem str_src {b : ByteArray} {s : List Nat} (hb : b.data.toList.map UInt8.toNat = s) (n : Nat) (es : Nat) : ∃ us, VRels σ E (natsOf (s.take n)) us ∧ (∀ w', (Builtin.firstCells es n (.string b)).run P w' = .ok us.toArray w') := by
  refine ⟨(b.data.toList.take n).map fun x => Value.int .u8 x.toNat, ?_, fun w' => ?_⟩
  · rw [← hb, ← List.map_take]; exact natsOf_rel _
  · simp only [Builtin.firstCells, Sem.run_pure]
    congr 1
    apply Array.ext'
    simp [ByteArray.data_extract, Array.toList_extract, List.extract_eq_take_drop]
theorem appSrc_rel (hσ : OneOpq σ) (H : HObj σ B E g w) {e : TypeId} {i : TypeInfo} {ts : Array TypeId} {zeros : Option (List AV)} (hk : SrcKind P e ts zeros) (hi : P.info? e = some i) {xv : AV} {x : Value} (hx : VRel σ E xv x) {m : Nat} {new : List AV} (h : appSrc i.size zeros g xv = some (m, new))
    (hlen : new.length = m * i.size) (h1 : allOne new = true) (hes : 1 ≤ i.size) : ∃ us, VRels σ E new us ∧ Src P e i w ts x m us := by
  unfold appSrc at h
  cases zeros with
  | some zs =>
    obtain ⟨hk1, hk2, z, hz, rfl⟩ := hk
    dsimp only at h
    split at h
    · rename_i k n
      split at h
      · rename_i hle
        cases h
        obtain rfl := hx.int_inv
        have hzi : ∃ zv, i.zero = some zv ∧ ∀ E, VRel σ E z zv := by
          unfold tzero at hz
          rw [hi] at hz
          simp only [Option.bind_some] at hz
          cases hzz : i.zero with
          | none => rw [hzz] at hz; cases hz
          | some zv => rw [hzz] at hz; exact ⟨zv, rfl, fun E => cval_rel hz⟩
        obtain ⟨zv, hzv, hrel⟩ := hzi
        by_cases hm : m = 0
        · subst hm
          exact ⟨[], .nil, ⟨.inl ⟨hk1, hk2, ⟨k, rfl⟩, by omega, zv, hzv, by simp [Builtin.zeroCells], fun _ => rfl⟩⟩⟩
        · have hone : allOne (cellsOf z) = true := by
            obtain ⟨q, rfl⟩ : ∃ q, m = q + 1 := ⟨m - 1, by omega⟩
            rw [rep_succ, allOne_append, Bool.and_eq_true] at h1
            exact h1.1
          have hcells := (hrel E).cells hσ hone
          have hzl := hcells.length
          simp only [Array.length_toList] at hzl
          have hrep := rep_rel hcells m (m * zv.cells.size) (by rw [hzl])
          refine ⟨_, hrep, ⟨.inl ⟨hk1, hk2, ⟨k, rfl⟩, Nat.le_of_ble_eq_true hle, zv, hzv, (Array.toArray_toList).trans rfl, fun h0 => ?_⟩⟩⟩
          exfalso
          rcases Nat.mul_eq_zero.1 h0 with h | h <;> omega
      · cases h
    · cases h
  | none =>
    dsimp only at h
    split at h
    · rename_i n hn
      cases hsc : srcCells i.size n g xv with
      | none => rw [hsc] at h; cases h
      | some l =>
        rw [hsc] at h
        cases h
        unfold srcCells at hsc
        split at hsc
        · cases hsc
          cases hx
          cases hn
          exact ⟨[], .nil, ⟨.inr ⟨hk, by simp [Builtin.lenOf], fun w' _ => by simp [Builtin.firstCells]⟩⟩⟩
        · rename_i s
          cases hsc
          cases hn
          obtain ⟨b, rfl, hb⟩ := hx.str_inv
          obtain ⟨us, hr, hf⟩ := str_src (P := P) (σ := σ) (E := E) hb s.length i.size
          refine ⟨us, hr, ⟨.inr ⟨hk, ?_, fun w' _ => hf w'⟩⟩⟩
          have : s.length = b.size := by rw [← hb]; simp
          simp [Builtin.lenOf, this]
        · rename_i id off len es cap
          split at hsc
          · rename_i cs lo closed hgo
            cases hn
            obtain ⟨us, hr, hf⟩ := slice_src (P := P) H hgo hx _ (Nat.le_refl _) hsc
            refine ⟨us, hr, ⟨.inr ⟨hk, ?_, hf⟩⟩⟩
            cases hx <;> simp [Builtin.lenOf]
          · cases hsc
        · cases hsc
    · cases h
theorem upd_append (g : Nat → Option AO) : ∀ (a b : Ws), upd g (a ++ b) = upd (upd g a) b
  | [], _ => rfl
  | (id, o) :: a, b => by simp only [List.cons_append, upd]; exact upd_append _ a b
/-- A new row behind a draw; some objects let go. -/
theorem SPost.grow (H : HObj σ B E g w) (hn : E nid = none) (hB : B ≤ w.heap.size) {ws0 : Ws} (hsub : ∀ i o, upd g ws0 i = some o → g i = some o) {c : Array Value} {elem : TypeId} {row : T AV} {lo : Nat} {r : AV} {u : Value}
    (hlo : lo ≤ c.size) (hrow : ∀ j v, row.get j = some v → j < lo ∧ ∃ u, c[j]? = some u ∧ VRel σ E v u ∧ u.oneCell' = true) (hr : VRel σ (E.put nid (w.heap.size, 0, c.size)) r u) :
    SPost σ B E g w nid r (ws0 ++ [(nid, some (.cells row lo false))]) u (w.drew.alloc (.cells c elem)) (E.put nid (w.heap.size, 0, c.size)) := by
  have he : Emb.le E (E.put nid (w.heap.size, 0, c.size)) := Emb.le_put hn
  have hp := SPost.alloc (w' := w.drew.alloc (.cells c elem)) (ob := .cells c elem) (base := 0) (size := c.size) (o := .cells row lo false) (H.sub hsub) hn hB rfl rfl rfl rfl hr
    ⟨c, elem, (0, 0), rfl, rfl, by simpa using hlo, by simp, fun j v hj => let ⟨a, u, b, d, e⟩ := hrow j v hj; ⟨a, u, by simpa using b, d.mono he, e⟩, fun off _ _ => by simp⟩
  exact { val := hp.val, heap := by rw [upd_append]; exact hp.heap, keep := hp.keep, le := hp.le, size := hp.size, os := hp.os, tape := hp.tape, out := hp.out,
          frame := fun b hb hf => hp.frame b hb fun id o x hid hx => hf id o x (hsub id o hid) hx,
          new := fun x hx => by
            obtain ⟨a, h⟩ := hp.new x hx
            refine ⟨a, ?_⟩
            rcases h with h | ⟨i, o, y, h1, h2, h3⟩
            · exact .inl h
            · exact .inr ⟨i, o, y, hsub i o h1, h2, h3⟩,
          dom := fun id o h => by
            rw [upd_append] at h
            rcases hp.dom id o h with h | ⟨o', h⟩
            · exact .inl h
            · exact .inr ⟨o', hsub id o' h⟩,
          same := fun h => by simp at h }
/-- What is known of a row that goes on another one. -/
theorem base_get {cs : T AV} {lo off n : Nat} (hcs : ∀ i v, cs.get i = some v → i < lo) {i : Nat} {v : AV} (h : (if Nat.beq off 0 && Nat.beq lo n then cs else moved cs off n).get i = some v) : i < n ∧ cs.get (off + i) = some v := by
  split at h
  · rename_i hc
    simp only [Bool.and_eq_true] at hc
    have h1 := Nat.eq_of_beq_eq_true hc.1
    have h2 := Nat.eq_of_beq_eq_true hc.2
    subst h1; subst h2
    exact ⟨hcs i v h, by simpa using h⟩
  · rw [moved_get] at h
    split at h
    · rename_i hi; exact ⟨hi, h⟩
    · cases h

/-- The whole of append. -/
theorem does_app (hσ : OneOpq σ) (H : HObj σ B E g w) (hn : E nid = none) (hB : B ≤ w.heap.size) {t e ty : TypeId} {i : TypeInfo} {ts : Array TypeId} {zeros : Option (List AV)} {z : AV} (h0 : ts[0]? = some t) (ht : P.underlying t = some (.slice e)) (hi : P.info? e = some i) (hz : tzero P e = some z) (hzl : (cellsOf z).length = i.size) (hzo : allOne (cellsOf z) = true)
    (hk : SrcKind P e ts zeros) {vs : List AV} {x y : Value} (hv : VRels σ E vs [x, y]) (hne : sApp i.size i.bytes zeros g nid vs ≠ []) : Does P σ B E g w nid (sApp i.size i.bytes zeros g nid vs) (Builtin.append_ ts ty #[x, y]) := by
  obtain ⟨zv, hzv, hzr⟩ : ∃ zv, i.zero = some zv ∧ VRel σ E z zv := by
    unfold tzero at hz
    rw [hi] at hz
    simp only [Option.bind_some] at hz
    cases hzz : i.zero with
    | none => rw [hzz] at hz; cases hz
    | some zv => rw [hzz] at hz; exact ⟨zv, rfl, cval_rel hz⟩
  have hzs : zv.cells.size = i.size := by
    have := (hzr.cells hσ hzo).length
    rw [hzl, Array.length_toList] at this
    exact this.symm
  unfold sApp at hne ⊢
  split at hne
  · rename_i sv xv
    obtain ⟨u, u', hu, h1, h2⟩ := hv.two_inv
    simp only [List.cons.injEq, and_true] at hu
    obtain ⟨rfl, rfl⟩ := hu
    split at hne
    · exact absurd rfl hne
    · rename_i m new hsrc
      simp only [hsrc] at hne ⊢
      split at hne
      · exact absurd rfl hne
      · rename_i hc
        rw [if_neg hc]
        simp only [Bool.or_eq_true, Bool.not_eq_true', not_or, Bool.not_eq_false] at hc
        obtain ⟨⟨⟨hc1, hone⟩, hc3⟩, hc4⟩ := hc
        have hlen := Nat.eq_of_beq_eq_true hc1
        have hes := Nat.le_of_ble_eq_true hc3
        have hby := Nat.le_of_ble_eq_true hc4
        obtain ⟨us, hrel, hs⟩ := appSrc_rel hσ H hk hi h2 hsrc hlen hone hes
        have hul := hrel.length
        -- a new row: the old ones first
        have grow : ∀ (base : Option Addr) (len c : Nat) (os : List Value) (ws0 : Ws) (row : T AV), (∀ i o, upd g ws0 i = some o → g i = some o) → c < len + m → (len + m) * i.bytes ≤ 140737488355328 → os.length = len * i.size →
            (∀ w', w'.heap = w.heap → (Builtin.firstCells i.size len (.slice base len c)).run P w' = .ok os.toArray w') →
            (∀ j v, row.get j = some v → j < (len + m) * i.size ∧ ∃ u, (os ++ us)[j]? = some u ∧ VRel σ E v u ∧ u.oneCell' = true) →
            ∃ u w' E', (Builtin.append_ ts ty #[.slice base len c, y]).run P w = .ok u w' ∧ SPost σ B E g w nid (.slice nid 0 (len + m) i.size none) (ws0 ++ [(nid, some (.cells row ((len + m) * i.size) false))]) u w' E' := by
          intro base len c os ws0 row hsub hlt hb hol hold hrow
          obtain ⟨nc, hnc, hrun⟩ := run_append_grow' (P := P) (w := w) (ty := ty) h0 ht hi hzv hs hby hb hlt hold
          have hzsz : ∀ k, (Builtin.zeroCells zv.cells k).size = k * zv.cells.size := fun k => by simp [Builtin.zeroCells]
          have hcsz : (os.toArray ++ (us.toArray ++ Builtin.zeroCells zv.cells (nc - (len + m)))).size = nc * i.size := by
            simp only [Array.size_append, hzsz, List.size_toArray, hzs]
            have e1 : us.length = m * i.size := by omega
            rw [e1, hol, ← Nat.add_assoc, ← Nat.add_mul, ← Nat.add_mul]
            congr 1
            omega
          refine ⟨_, _, _, hrun, SPost.grow H hn hB hsub ?_ (fun j v hj => ?_) (.slice _ _ _ _ _ _ _ _ _ Emb.put_same ?_ hnc)⟩
          · rw [hcsz]; exact Nat.mul_le_mul_right _ hnc
          · obtain ⟨h1, u, hu, h2, h3⟩ := hrow j v hj
            refine ⟨h1, u, ?_, h2, h3⟩
            have hlt2 : j < (os ++ us).length := by
              rcases Nat.lt_or_ge j (os ++ us).length with h' | h'
              · exact h'
              · rw [List.getElem?_eq_none h'] at hu; cases hu
            have e : (os.toArray ++ (us.toArray ++ Builtin.zeroCells zv.cells (nc - (len + m)))) = (os ++ us).toArray ++ Builtin.zeroCells zv.cells (nc - (len + m)) := by rw [← List.append_toArray, Array.append_assoc]
            rw [e, Array.getElem?_append_left (by simpa using hlt2)]
            simpa using hu
          · show 0 + 0 + nc * i.size = _
            rw [hcsz]; omega
        split at hne
        · -- nil
          cases h1
          split at hne
          · rename_i hm0
            rw [if_pos hm0]
            have hm := Nat.eq_of_beq_eq_true hm0
            subst hm
            have hrun := run_append_fit (P := P) (w := w) (ty := ty) (base := none) (sLen := 0) (sCap := 0) h0 ht hi hs (by omega) (Nat.le_refl _) (w' := w) (by simp)
            exact ⟨_, _, _, w, E, List.mem_cons_self, hrun, SPost.pure H hn .nils (Drew.refl w)⟩
          · rename_i hm0
            rw [if_neg hm0]
            have hm : m ≠ 0 := fun e => hm0 (by rw [e]; rfl)
            split at hne
            · exact absurd rfl hne
            · rename_i hb
              rw [if_neg hb]
              have hb' : m * i.bytes ≤ 140737488355328 := by simpa using hb
              obtain ⟨u, w', E', hrun, hp⟩ := grow none 0 0 [] [] (ofList new) (fun _ _ h => h) (by omega) (by simpa using hb') (by simp) (fun w' _ => by simp [Builtin.firstCells]) (fun j v hj => by
                rw [ofList_get] at hj
                obtain ⟨u, hu, hr⟩ := hrel.get hj
                have hlt : j < new.length := by
                  rcases Nat.lt_or_ge j new.length with h' | h'
                  · exact h'
                  · rw [List.getElem?_eq_none h'] at hj; cases hj
                exact ⟨by rw [Nat.zero_add]; omega, u, by simpa using hu, hr, hr.one hσ (allOne_spec hone v (List.mem_of_getElem? hj))⟩)
              simp only [Nat.zero_add, List.nil_append] at hp
              exact ⟨_, _, u, w', E', List.mem_cons_self, hrun, hp⟩
        · -- a slice
          rename_i id off len es' cap
          split at hne
          · exact absurd rfl hne
          · rename_i he
            rw [if_neg he]
            have he' : i.size = es' := Nat.eq_of_beq_eq_true (by simpa using he)
            subst he'
            split at hne
            · rename_i hm0
              rw [if_pos hm0]
              have hm := Nat.eq_of_beq_eq_true hm0
              subst hm
              have hnil : us = [] := List.eq_nil_of_length_eq_zero (by omega)
              subst hnil
              have fit : ∀ (a : Addr) (n c : Nat), n ≤ c → (Builtin.append_ ts ty #[.slice (some a) n c, y]).run P w = .ok (.slice (some a) n c) w := fun a n c hle =>
                run_append_fit (P := P) (w := w) (ty := ty) (base := some a) (sLen := n) (sCap := c) h0 ht hi hs (by omega) hle (w' := w) (by simp [storeCells])
              cases h1 with
              | slice _ _ _ _ _ b base size c hE hcap hle => exact ⟨_, _, _, w, E, List.mem_cons_self, fit _ _ _ hle, SPost.pure H hn (.slice _ _ _ _ _ _ _ _ _ hE hcap hle) (Drew.refl w)⟩
              | slice0 _ _ _ b base size a hE hs0 => exact ⟨_, _, _, w, E, List.mem_cons_self, fit _ _ _ (Nat.le_refl _), SPost.pure H hn (.slice0 _ _ _ _ _ _ _ hE hs0) (Drew.refl w)⟩
              | slice00 _ _ _ _ _ _ a hE0 => exact ⟨_, _, _, w, E, List.mem_cons_self, fit _ _ _ (Nat.le_refl _), SPost.pure H hn (.slice00 _ _ _ _ _ _ _ hE0) (Drew.refl w)⟩
            · rename_i hm0
              rw [if_neg hm0]
              have hm : m ≠ 0 := fun e => hm0 (by rw [e]; rfl)
              split at hne
              · exact absurd rfl hne
              · rename_i hb
                rw [if_neg hb]
                have hb' : (len + m) * i.bytes ≤ 140737488355328 := Nat.le_of_ble_eq_true (by simpa only [Bool.not_eq_true', Bool.not_eq_false] using hb)
                split at hne
                · rename_i cs lo closed hgo
                  obtain ⟨b, base, size, c0, elem, frz, hE, hBb, hblt, hbk, hsz, hlo, hcl, hcs, hfz⟩ := H.cells hgo
                  have hmul : (len + m) * i.size = len * i.size + m * i.size := Nat.add_mul _ _ _
                  have hmpos : 1 ≤ m * i.size := Nat.mul_pos (by omega) hes
                  -- the store in place
                  have put : base + off + len * i.size + us.length ≤ size → ∃ w', (storeCells (Addr.add ⟨b, base + off, none⟩ (len * i.size)) us).run P w = .ok () w' ∧ Wrote w b (.cells (setMany c0 (base + (off + len * i.size)) us) elem frz) w' := fun h => by
                    obtain ⟨w', hrun, hw⟩ := run_storeCells (P := P) b (base + off + len * i.size) elem frz us 0 c0 w hbk (by omega) (hrel.ones hσ hone) (fun j hj hj' => hfz j (by omega) (by omega))
                    exact ⟨w', by rw [add_addr]; exact hrun, by simpa [Nat.add_assoc] using hw⟩
                  have hcan : ∀ c, (len + m) * i.size ≤ c * i.size → len + m ≤ c := fun c h => Nat.le_of_mul_le_mul_right h hes
                  have hcan2 : ∀ c, c * i.size < (len + m) * i.size → c < len + m := fun c h => Nat.lt_of_mul_lt_mul_right h
                  have hmb : m * i.bytes ≤ 281474976710656 := Nat.le_trans (Nat.mul_le_mul_right _ (Nat.le_add_left m len)) (by omega)
                  have same : ∀ {b' base' size' : Nat}, E id = some (b', base', size') → b' = b ∧ base' = base ∧ size' = size := fun h => by
                    have e := Option.some.inj (h.symm.trans hE)
                    simpa only [Prod.mk.injEq] using e
                  have fitcase : ∀ (cap : Option Nat) (c : Nat), CapRel cap (base + off) i.size size c → off + (len + m) * i.size ≤ lo → len + m ≤ c →
                      Does P σ B E g w nid [(.slice id off (len + m) i.size cap, [(id, some (.cells (putList cs (off + len * i.size) new) lo closed))])] (Builtin.append_ ts ty #[.slice (some ⟨b, base + off, none⟩) len c, y]) := fun cap c hcap h1 h2 => by
                    obtain ⟨w', hrun, hw⟩ := put (by omega)
                    exact ⟨_, _, _, w', E, List.mem_cons_self, run_append_fit (P := P) (w := w) (ty := ty) (base := some ⟨b, base + off, none⟩) h0 ht hi hs hmb h2 hrun,
                      SPost.put hσ H hn hgo hE hsz hlo hcl hcs hfz hrel hone (by omega) hw (.slice _ _ _ _ _ _ _ _ _ hE hcap h2)⟩
                  -- the old ones
                  have hol : off + len * i.size ≤ lo → ((c0.toList.drop (base + off)).take (len * i.size)).length = len * i.size := fun hle3 => by simp; omega
                  have hog : ∀ j, j < len * i.size → ((c0.toList.drop (base + off)).take (len * i.size))[j]? = c0[base + off + j]? := fun j hj => by
                    rw [List.getElem?_take_of_lt hj, List.getElem?_drop]; simp
                  have hrow : off + len * i.size ≤ lo → ∀ j v, (putList (if Nat.beq off 0 && Nat.beq lo (len * i.size) then cs else moved cs off (len * i.size)) (len * i.size) new).get j = some v →
                      j < (len + m) * i.size ∧ ∃ u, ((c0.toList.drop (base + off)).take (len * i.size) ++ us)[j]? = some u ∧ VRel σ E v u ∧ u.oneCell' = true := fun hle3 j v hj => by
                    rw [putList_get] at hj
                    split at hj
                    · rename_i hr
                      obtain ⟨u, hu, hrl⟩ := hrel.get hj
                      refine ⟨by omega, u, ?_, hrl, hrl.one hσ (allOne_spec hone v (List.mem_of_getElem? hj))⟩
                      rw [List.getElem?_append_right (by rw [hol hle3]; exact hr.1), hol hle3]; exact hu
                    · obtain ⟨h1', h2'⟩ := base_get (fun i v h => (hcs i v h).1) hj
                      obtain ⟨_, u, hu, hrl, h1c⟩ := hcs _ _ h2'
                      refine ⟨by omega, u, ?_, hrl, h1c⟩
                      rw [List.getElem?_append_left (by rw [hol hle3]; exact h1'), hog j h1', Nat.add_assoc]; exact hu
                  have hsub : ∀ i o, upd g [(id, none)] i = some o → g i = some o := fun i o h => by
                    simp only [upd, upd1] at h
                    split at h
                    · cases h
                    · exact h
                  have growcase : off + len * i.size ≤ lo → ∀ (ws0 : Ws), (∀ i o, upd g ws0 i = some o → g i = some o) → ∀ (a : Addr) (c : Nat), c < len + m → (a = ⟨b, base + off, none⟩ ∨ len = 0) →
                      Does P σ B E g w nid [(.slice nid 0 (len + m) i.size none, ws0 ++ [(nid, some (.cells (putList (if Nat.beq off 0 && Nat.beq lo (len * i.size) then cs else moved cs off (len * i.size)) (len * i.size) new) ((len + m) * i.size) false))])] (Builtin.append_ ts ty #[.slice (some a) len c, y]) := fun hle3 ws0 hsub a c hlt ha => by
                    obtain ⟨u, w', E', hrun, hp⟩ := grow (some a) len c _ ws0 _ hsub hlt hb' (hol hle3) (fun w' hw' => by
                      have := run_loadCells_list (P := P) w' a ((c0.toList.drop (base + off)).take (len * i.size)) (fun j v hj => by
                        have hlt : j < len * i.size := by
                          rcases Nat.lt_or_ge j (len * i.size) with h' | h'
                          · exact h'
                          · rw [List.getElem?_eq_none (by rw [hol hle3]; exact h')] at hj; cases hj
                        rcases ha with rfl | h0
                        · rw [cell_heap hw', add_addr, cell_at hbk, ← hog j hlt]; exact hj
                        · rw [h0, Nat.zero_mul] at hlt; exact absurd hlt (Nat.not_lt_zero _))
                      rw [hol hle3] at this
                      simpa [Builtin.firstCells] using this) (hrow hle3)
                    exact ⟨_, _, u, w', E', List.mem_cons_self, hrun, hp⟩
                  cases cap with
                  | some c' =>
                    dsimp only at hne ⊢
                    split at hne
                    · rename_i hf
                      rw [if_pos hf]
                      simp only [Bool.and_eq_true] at hf
                      cases h1 with
                      | slice _ _ _ _ _ b' base' size' c hE' hcap hle =>
                        obtain ⟨rfl, rfl, rfl⟩ := same hE'
                        have e : c = c' := hcap
                        exact fitcase _ _ hcap (Nat.le_of_ble_eq_true hf.2) (e ▸ Nat.le_of_ble_eq_true hf.1)
                      | slice00 _ _ _ _ _ _ a _ =>
                        have h := Nat.le_of_ble_eq_true hf.1
                        exfalso; omega
                    · rename_i hf
                      rw [if_neg hf]
                      split at hne
                      · exact absurd rfl hne
                      · rename_i hle2
                        rw [if_neg hle2]
                        have hle3 : off + len * i.size ≤ lo := Nat.le_of_ble_eq_true (by simpa only [Bool.not_eq_true', Bool.not_eq_false] using hle2)
                        split at hne
                        · rename_i hg
                          rw [if_pos hg]
                          have hlt : c' < len + m := Nat.le_of_ble_eq_true hg
                          cases h1 with
                          | slice _ _ _ _ _ b' base' size' c hE' hcap hle =>
                            obtain ⟨rfl, rfl, rfl⟩ := same hE'
                            have e : c = c' := hcap
                            exact growcase hle3 [] (fun _ _ h => h) _ _ (e ▸ hlt) (.inl rfl)
                          | slice00 _ _ _ _ _ _ a _ => exact growcase hle3 [] (fun _ _ h => h) _ _ hlt (.inr rfl)
                        · exact absurd rfl hne
                  | none =>
                    dsimp only at hne ⊢
                    split at hne
                    · rename_i hf
                      rw [if_pos hf]
                      have h := Nat.le_of_ble_eq_true hf
                      cases h1 with
                      | slice _ _ _ _ _ b' base' size' c hE' hcap hle =>
                        obtain ⟨rfl, rfl, rfl⟩ := same hE'
                        have e : base' + off + c * i.size = size' := hcap
                        exact fitcase _ _ hcap h (hcan c (by omega))
                      | slice0 _ _ _ b' base' size' a hE' hs0 =>
                        obtain ⟨rfl, rfl, rfl⟩ := same hE'
                        exfalso; omega
                    · rename_i hf
                      rw [if_neg hf]
                      split at hne
                      · exact absurd rfl hne
                      · rename_i hle2
                        rw [if_neg hle2]
                        have hle3 : off + len * i.size ≤ lo := Nat.le_of_ble_eq_true (by simpa only [Bool.not_eq_true', Bool.not_eq_false] using hle2)
                        split at hne
                        · rename_i hg
                          rw [if_pos hg]
                          simp only [Bool.and_eq_true] at hg
                          have hcl1 := (hcl hg.1).1
                          have hlt : lo < off + (len + m) * i.size := Nat.le_of_ble_eq_true hg.2
                          cases h1 with
                          | slice _ _ _ _ _ b' base' size' c hE' hcap hle =>
                            obtain ⟨rfl, rfl, rfl⟩ := same hE'
                            have e : base' + off + c * i.size = size' := hcap
                            exact growcase hle3 [] (fun _ _ h => h) _ _ (hcan2 c (by omega)) (.inl rfl)
                          | slice0 _ _ _ b' base' size' a hE' hs0 => exact growcase hle3 [] (fun _ _ h => h) _ _ (by omega) (.inr rfl)
                        · rename_i hg
                          rw [if_neg hg]
                          cases h1 with
                          | slice _ _ _ _ _ b' base' size' c hE' hcap hle =>
                            obtain ⟨rfl, rfl, rfl⟩ := same hE'
                            have ec : base' + off + c * i.size = size' := hcap
                            by_cases hfit : len + m ≤ c
                            · have hcm : (len + m) * i.size ≤ c * i.size := Nat.mul_le_mul_right _ hfit
                              obtain ⟨w', hrun, hw⟩ := put (by omega)
                              refine ⟨_, _, _, w', E.put nid (b', base' + off, size'), List.mem_cons_self, run_append_fit (P := P) (w := w) (ty := ty) (base := some ⟨b', base' + off, none⟩) h0 ht hi hs hmb hfit hrun,
                                SPost.move H hn hgo hE hBb hw.size hw.other hw.os hw.tape hw.out ?_ (.slice nid 0 _ _ none b' (base' + off) size' c Emb.put_same ec hfit)⟩
                              show ORel σ _ _ _ (w'.heap[b']?)
                              rw [hw.at_]
                              refine ⟨_, _, _, rfl, by rw [setMany_size]; exact hsz, by show base' + off + _ ≤ size'; omega, (fun h => by cases h), fun j v hj => ?_, fun o ho ho' => hfz o (by have : base' + off ≤ o := ho; omega) ho'⟩
                              obtain ⟨hj1, u, hu, hrl, h1c⟩ := hrow hle3 j v hj
                              refine ⟨hj1, u, ?_, hrl.mono (Emb.le_put hn), h1c⟩
                              show (setMany c0 (base' + (off + len * i.size)) us)[base' + off + j]? = some u
                              rw [setMany_get _ _ _ _ (by omega)]
                              rcases Nat.lt_or_ge j (len * i.size) with hjl | hjl
                              · rw [if_neg (by omega), ← hog j hjl]
                                rw [List.getElem?_append_left (by rw [hol hle3]; exact hjl)] at hu
                                exact hu
                              · rw [if_pos (by omega)]
                                rw [List.getElem?_append_right (by rw [hol hle3]; exact hjl), hol hle3] at hu
                                rw [show base' + off + j - (base' + (off + len * i.size)) = j - len * i.size by omega]
                                exact hu
                            · exact growcase hle3 [(id, none)] hsub _ _ (by omega) (.inl rfl)
                          | slice0 _ _ _ b' base' size' a hE' hs0 => exact growcase hle3 [(id, none)] hsub _ _ (by omega) (.inr rfl)
                · exact absurd rfl hne
        · exact absurd rfl hne
  · exact absurd rfl hne
end Go.Hx
