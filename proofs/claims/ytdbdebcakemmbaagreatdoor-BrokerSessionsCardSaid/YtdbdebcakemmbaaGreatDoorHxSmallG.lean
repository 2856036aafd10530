/- One operation: made maps and slices; texts from bytes and back; maps. -/
import Derived.Test.YtdbdebcakemmbaaGreatDoorHxSmallE
namespace Go.Hx
open Go
variable {σ : Nat → Value} {B : Nat} {E E' : Emb} {g : Nat → Option AO} {w w' : World} {nid : Nat} {P : Program} {ot : MOp → List AV → Option AV} {gm : Nat → Nat → Option AV}

theorem does_mkm (H : HObj σ B E g w) (hn : E nid = none) (hB : B ≤ w.heap.size) {t k e : TypeId} (ht : P.underlying t = some (.map k e)) {r : Option Value} {vs : List AV} (hv : VRels σ E vs r.toList) (hne : sMkm nid vs ≠ []) :
    Does P σ B E g w nid (sMkm nid vs) (Instr.makeMap t r) := by
  have fin : ∀ {u : Value} (s : Sem Value), s.run P w = .ok (.map (some w.heap.size)) (w.alloc (.map #[] 0)) → Does P σ B E g w nid [(.map nid, [(nid, some (.map [] 0))])] s := by
    intro u s hs
    exact ⟨_, _, _, _, _, List.mem_cons_self, hs, SPost.alloc (w' := w.alloc (.map #[] 0)) (ob := .map #[] 0) (base := 0) (size := 0) H hn hB rfl rfl rfl rfl (.map _ _ _ _ Emb.put_same) ⟨#[], rfl, trivial⟩⟩
  unfold sMkm at hne ⊢
  split at hne
  · have : r = none := by cases r with | none => rfl | some x => cases hv
    subst this
    exact fin (u := undef) _ (by simp [Instr.makeMap])
  · cases r with
    | none => cases hv
    | some x =>
      obtain ⟨u, hu, h1⟩ := hv.one_inv
      simp only [Option.toList_some, List.cons.injEq, and_true] at hu; subst hu
      obtain rfl := h1.int_inv
      exact fin (u := undef) _ (by simp [Instr.makeMap, run_underlying ht, asInt, asIntOf])
  · exact absurd rfl hne

theorem does_mks (hσ : OneOpq σ) (H : HObj σ B E g w) (hn : E nid = none) (hB : B ≤ w.heap.size) {t e : TypeId} {i : TypeInfo} {z : AV} (ht : P.underlying t = some (.slice e)) (hi : P.info? e = some i) (hz : tzero P e = some z) {vs : List AV} {l c : Value}
    (hv : VRels σ E vs [l, c]) (hne : sMks (cellsOf z) i.size i.bytes nid vs ≠ []) : Does P σ B E g w nid (sMks (cellsOf z) i.size i.bytes nid vs) (Instr.makeSlice t l c) := by
  unfold sMks at hne ⊢
  split at hne
  · rename_i kl n kc m
    split at hne
    · rename_i hc
      rw [if_pos hc]
      simp only [Bool.and_eq_true] at hc
      obtain ⟨⟨⟨⟨⟨h1, h2⟩, h3⟩, h4⟩, h5⟩, h6⟩ := hc
      have h1 := Nat.le_of_ble_eq_true h1
      have h2 := Nat.le_of_ble_eq_true h2
      have h3 := Nat.le_of_ble_eq_true h3
      have h5 := Nat.eq_of_beq_eq_true h5
      obtain ⟨u, u', hu, hl, hcc⟩ := hv.two_inv
      simp only [List.cons.injEq, and_true] at hu
      obtain ⟨rfl, rfl⟩ := hu
      obtain rfl := hl.int_inv
      obtain rfl := hcc.int_inv
      have hzi : ∃ zv, i.zero = some zv ∧ ∀ E, VRel σ E z zv := by
        unfold tzero at hz
        rw [hi] at hz
        simp only [Option.bind_some] at hz
        cases hzz : i.zero with
        | none => rw [hzz] at hz; cases hz
        | some zv => rw [hzz] at hz; exact ⟨zv, rfl, fun E => cval_rel hz⟩
      obtain ⟨zv, hzv, hrel⟩ := hzi
      have hrun := run_make (P := P) w t e i zv ht hi hzv kl kc (.ofNat n) (.ofNat m) (Int.natCast_nonneg n) (by show (n : Int) ≤ m; omega) (by have h := Int.ofNat_le.mpr h3; rw [Int.natCast_mul] at h; exact h) (by show (m : Int) ≤ _; omega)
      have hcells := (hrel E).cells hσ h4
      have hzl := hcells.length
      have hrep := rep_rel hcells m (m * i.size) (by rw [h5])
      have hlen : (rep m (cellsOf z)).length = m * i.size := by rw [rep_length, h5]
      have hmade : madeCells zv.cells (Int.toNat (.ofNat m) * i.size) = (Array.range (m * i.size)).map (zv.cells[· % zv.cells.size]!) := rfl
      have hp := SPost.row hσ H hn hB hrep (allOne_rep h4 m) e true (r := .slice nid 0 n i.size (some m)) (u := .slice (some ⟨w.heap.size, 0, none⟩) n m) (.slice _ _ _ _ _ _ _ _ _ Emb.put_same rfl h1)
      rw [hlen] at hp
      exact ⟨_, _, _, _, _, List.mem_cons_self, hrun, hp⟩
    · exact absurd rfl hne
  · exact absurd rfl hne

theorem natsOf_rel : ∀ (b : List UInt8), VRels σ E (natsOf (b.map UInt8.toNat)) (b.map fun x => Value.int .u8 x.toNat)
  | [] => .nil
  | _ :: b => .cons _ _ _ _ (.int _ _) (natsOf_rel b)
theorem natsOf_one : ∀ (l : List Nat), allOne (natsOf l) = true
  | [] => rfl
  | _ :: l => by simp [natsOf, allOne, AV.one, natsOf_one l]
theorem natsOf_length : ∀ (l : List Nat), (natsOf l).length = l.length
  | [] => rfl
  | _ :: l => by simp [natsOf, natsOf_length l]

theorem freeze_heap (w : World) (c : Array Value) (e : TypeId) (cap : Nat) : ((w.drew.alloc (.cells c e)).freeze { block := w.heap.size, off := cap } 1).heap = w.heap.push (.cells c e (cap, cap + 1)) := by
  have h : ((w.drew.alloc (.cells c e)).freeze { block := w.heap.size, off := cap } 1).heap = (w.heap.push (.cells c e)).modify w.heap.size fun
      | .cells c elem (lo, hi) => .cells c elem (if lo == hi then (cap, cap + 1) else (min lo cap, max hi (cap + 1)))
      | o => o := by
    unfold World.freeze
    rw [if_neg Nat.one_ne_zero]
    rfl
  rw [h]
  apply Array.ext_getElem?
  intro i
  rw [Array.getElem?_modify]
  by_cases hi : w.heap.size = i
  · subst hi
    simp
  · rw [if_neg hi, Array.getElem?_push, Array.getElem?_push, if_neg (Ne.symm hi), if_neg (Ne.symm hi)]
theorem shape_new (w : World) (c : Array Value) (e : TypeId) : (w.drew.alloc (.cells c e)).shape? w.heap.size = some (e, c.size) := by
  have : (w.drew.alloc (.cells c e)).heap[w.heap.size]? = some (.cells c e) := by
    show (w.heap.push (.cells c e))[w.heap.size]? = _
    simp
  unfold World.shape?
  rw [this]
theorem does_s2b (hσ : OneOpq σ) (H : HObj σ B E g w) (hn : E nid = none) (hB : B ≤ w.heap.size) {s d e : TypeId} (hs : P.underlying s = some .string) (hd : P.underlying d = some (.slice e)) (he : P.underlying e = some (.int .u8)) {vs : List AV} {x : Value}
    (hv : VRels σ E vs [x]) (hne : small gm ot .s2b g nid vs ≠ []) : Does P σ B E g w nid (small gm ot .s2b g nid vs) (convert s d x) := by
  simp only [small] at hne ⊢
  split at hne
  · rename_i l
    obtain ⟨u, hu, h1⟩ := hv.one_inv
    simp only [List.cons.injEq, and_true] at hu; subst hu
    obtain ⟨b, rfl, hb⟩ := h1.str_inv
    have hlen : l.length = b.size := by rw [← hb]; simp
    -- the capacity that is drawn
    obtain ⟨cap, hcap⟩ : ∃ cap, cap = (Question.appendCap b.size 0 e).cut (w.tape w.drawn (.appendCap b.size 0 e)) := ⟨_, rfl⟩
    have hge : b.size ≤ cap := by rw [hcap]; simp [Question.cut]
    obtain ⟨c, hc⟩ : ∃ c : Array Value, c = (b.data.map fun x => Value.int .u8 x.toNat) ++ Array.replicate (cap - b.size) (.int .u8 0) := ⟨_, rfl⟩
    have hcs : c.size = cap := by rw [hc]; simp; show b.data.size + (cap - b.size) = cap; have : b.data.size = b.size := rfl; omega
    obtain ⟨w2, hw2⟩ : ∃ w2 : World, w2 = (w.drew.alloc (.cells c e)).freeze { block := w.heap.size, off := cap } 1 := ⟨_, rfl⟩
    have hheap : w2.heap = w.heap.push (.cells c e (cap, cap + 1)) := by rw [hw2]; exact freeze_heap w c e cap
    have hrun : (convert s d (.string b)).run P w = .ok (.slice (some ⟨w.heap.size, 0, none⟩) b.size cap) w2 := by
      have hshape : (w.drew.alloc (.cells c e)).shape? w.heap.size = some (e, cap) := by rw [← hcs]; exact shape_new w c e
      simp only [convert, Sem.run_bind, run_underlying hs, run_underlying hd, Result.andThen_ok, run_underlying he, Conv.stringToBytes, run_choose]
      have hf : (Question.appendCap b.size 0 e).forced = false := rfl
      simp only [hf, Bool.false_eq_true, if_false, Result.andThen_ok, ← hcap, ← hc, newRow, Sem.run_bind, run_newObj, World.alloc_eq, World.drew_eq, Sem.run_pure, markStringish, run_shape, World.size_drew, hshape, run_freeze, ← hw2]
    refine ⟨_, _, _, w2, E.put nid (w.heap.size, 0, cap), List.mem_cons_self, hrun, ?_⟩
    have hsl : b.data.size = b.size := rfl
    refine SPost.alloc (ob := .cells c e (cap, cap + 1)) H hn hB hheap (by rw [hw2]; rfl) (by rw [hw2]; rfl) (by rw [hw2]; rfl) ?_ ?_
    · rw [hlen]
      refine .slice _ _ _ _ _ _ _ _ _ Emb.put_same ?_ hge
      show 0 + 0 + cap * 1 = cap
      omega
    · refine ⟨c, e, _, rfl, hcs, by simp; omega, by simp, fun i v hiv => ?_, fun off _ h => by simp at h ⊢; omega⟩
      rw [ofList_get] at hiv
      have hrel : VRels σ (E.put nid (w.heap.size, 0, cap)) (natsOf l) (b.data.toList.map fun x => Value.int .u8 x.toNat) := by rw [← hb]; exact natsOf_rel _
      obtain ⟨u, hu, hr⟩ := hrel.get hiv
      have hlt : i < b.data.size := by
        rcases Nat.lt_or_ge i b.data.size with h' | h'
        · exact h'
        · rw [List.getElem?_eq_none (by simpa using h')] at hu; cases hu
      refine ⟨by omega, u, ?_, hr, hr.one hσ (allOne_spec (natsOf_one l) v (List.mem_of_getElem? hiv))⟩
      show c[0 + i]? = some u
      rw [Nat.zero_add, hc, Array.getElem?_append_left (by simpa using hlt)]
      simpa using hu
  · exact absurd rfl hne
theorem bytesOf_rel : ∀ {l : List AV} {ns : List Nat} {us : List Value}, VRels σ E l us → bytesOf l = some ns → us = ns.map (fun n => Value.int .u8 (.ofNat n)) ∧ ∀ n ∈ ns, n < 256
  | [], ns, us, h, hb => by cases hb; cases h; simp
  | v :: vs, ns, us, h, hb => by
    cases h with
    | cons _ u _ us' hv hs =>
      cases v <;> first | (simp [bytesOf] at hb; done) | skip
      rename_i k n
      cases k <;> first | (simp [bytesOf] at hb; done) | skip
      cases n with
      | negSucc m => simp [bytesOf] at hb
      | ofNat m =>
        simp only [bytesOf] at hb
        split at hb
        · rename_i hlt
          cases hr : bytesOf vs with
          | none => rw [hr] at hb; cases hb
          | some ns' =>
            rw [hr] at hb
            cases hb
            obtain ⟨h1, h2⟩ := bytesOf_rel hs hr
            obtain rfl := hv.int_inv
            refine ⟨by rw [h1]; rfl, fun n hn => ?_⟩
            cases hn with
            | head => simpa using hlt
            | tail _ hn => exact h2 n hn
        · cases hb
theorem does_b2s (H : HObj σ B E g w) (hn : E nid = none) {s d e : TypeId} (hs : P.underlying s = some (.slice e)) (hd : P.underlying d = some .string) (he : P.underlying e = some (.int .u8)) {vs : List AV} {x : Value}
    (hv : VRels σ E vs [x]) (hne : small gm ot .b2s g nid vs ≠ []) : Does P σ B E g w nid (small gm ot .b2s g nid vs) (convert s d x) := by
  simp only [small] at hne ⊢
  split at hne
  · obtain ⟨u, hu, h1⟩ := hv.one_inv
    simp only [List.cons.injEq, and_true] at hu; subst hu
    cases h1
    exact ⟨_, _, _, w, E, List.mem_cons_self, run_convert_bytes_nil w s e hs he 0 0 d hd, SPost.pure H hn (.str _ _ rfl) (Drew.refl w)⟩
  · rename_i id off len es cap
    obtain ⟨u, hu, h1⟩ := hv.one_inv
    simp only [List.cons.injEq, and_true] at hu; subst hu
    split at hne
    · rename_i cs lo closed hgo
      split at hne
      · rename_i l hl
        cases hb : bytesOf l with
        | none => rw [hb] at hne; exact absurd rfl hne
        | some ns =>
          obtain ⟨hlen, hget⟩ := getRange_spec _ _ _ _ hl
          obtain ⟨b, base, size, c, elem, frz, hx, _, _, hbk, hsz, hlo, _, hcs, _⟩ := H.cells hgo
          have fin : ∀ (a : Addr) (cp : Nat), (∀ (j : Nat) (v : AV), l[j]? = some v → ∃ u, w.cell? (a.add j) = some u ∧ VRel σ E v u) → ∃ str : ByteArray, (convert s d (.slice (some a) len cp)).run P w = .ok (.string str) w ∧ str.data.toList.map UInt8.toNat = ns := by
            intro a cp hcell
            obtain ⟨us, hrels, hrun, hc2⟩ := cells_list (P := P) hlen hcell
            obtain ⟨hus, hlt⟩ := bytesOf_rel hrels hb
            have hus' : us = (ns.map Int.ofNat).map (Value.int .u8) := by rw [hus, List.map_map]; rfl
            have hll : (loadCells a len).run P w = .ok ((ns.map Int.ofNat).map (Value.int .u8)).toArray w := by rw [← hus']; exact hrun
            refine ⟨strOfNums (ns.map Int.ofNat), ?_, ?_⟩
            · rw [run_convert_bytes_string w s d e _ len cp hs he hd, run_bytesToString w _ len cp _ hll, foldl_push_bytes]
              simp [strOfNums, ByteArray.empty, ByteArray.emptyWithCapacity]
              rfl
            · rw [strOfNums_data, List.map_map, List.map_map]
              conv => rhs; rw [← List.map_id ns]
              refine List.map_congr_left fun n hn => ?_
              have := hlt n hn
              simp [UInt8.toNat_ofNat']
              omega
          rw [show (ones (Option.map AV.str (some ns))) = [(.str ns, [])] from rfl]
          cases h1 with
          | slice _ _ _ _ _ b' base' size' c' hE hcap hle =>
            have e : (b', base', size') = (b, base, size) := Option.some.inj (hE.symm.trans hx)
            simp only [Prod.mk.injEq] at e
            obtain ⟨rfl, rfl, rfl⟩ := e
            obtain ⟨str, hrun, hstr⟩ := fin ⟨b', base' + off, none⟩ c' (fun j v hj => by
              obtain ⟨_, u, hu, hrel, _⟩ := hcs _ v (hget j v hj)
              exact ⟨u, by rw [add_addr, cell_at hbk, Nat.add_assoc]; exact hu, hrel⟩)
            exact ⟨_, _, _, w, E, List.mem_cons_self, hrun, SPost.pure H hn (.str _ _ hstr) (Drew.refl w)⟩
          | slice0 _ _ _ b' base' size' a hE hs0 =>
            obtain ⟨str, hrun, hstr⟩ := fin a 0 (fun j v hj => by
              have : l = [] := List.eq_nil_of_length_eq_zero hlen
              rw [this] at hj; simp at hj)
            exact ⟨_, _, _, w, E, List.mem_cons_self, hrun, SPost.pure H hn (.str _ _ hstr) (Drew.refl w)⟩
          | slice00 _ _ _ _ _ _ a _ =>
            obtain ⟨str, hrun, hstr⟩ := fin a 0 (fun j v hj => by
              have : l = [] := List.eq_nil_of_length_eq_zero hlen
              rw [this] at hj; simp at hj)
            exact ⟨_, _, _, w, E, List.mem_cons_self, hrun, SPost.pure H hn (.str _ _ hstr) (Drew.refl w)⟩
      · exact absurd rfl hne
    · exact absurd rfl hne
  · exact absurd rfl hne
end Go.Hx
/- One operation: maps. -/
namespace Go.Hx
open Go
variable {σ : Nat → Value} {B : Nat} {E E' : Emb} {g : Nat → Option AO} {w w' : World} {nid : Nat} {P : Program} {ot : MOp → List AV → Option AV} {gm : Nat → Nat → Option AV}

theorem run_getObj {b : Nat} {o : Obj} (h : w.heap[b]? = some o) (hc : ∀ c e f, o ≠ .cells c e f) : (getObj b).run P w = .ok o w := by
  simp only [getObj, Sem.run, h]
  try (cases o <;> first | rfl | exact absurd rfl (hc _ _ _))
theorem run_setObj {b : Nat} {o o' : Obj} (h : w.heap[b]? = some o) (hc : ∀ c e f, o ≠ .cells c e f) : ∃ w', (setObj b o').run P w = .ok () w' ∧ Wrote w b o' w' := by
  have hlt : b < w.heap.size := by
    rcases Nat.lt_or_ge b w.heap.size with h' | h'
    · exact h'
    · rw [Array.getElem?_eq_none h'] at h; cases h
  refine ⟨{ w with heap := w.heap.setIfInBounds b o' }, ?_, by simp, ?_, fun k hk => ?_, rfl, rfl, rfl⟩
  · simp only [setObj, Sem.run, h]
    try (cases o <;> first | rfl | exact absurd rfl (hc _ _ _))
  · simp [hlt]
  · simp [Array.getElem?_setIfInBounds_ne (Ne.symm hk)]

theorem run_checkKey {t : TypeId} {k : Nat} (h : kindNum P t = some k) (e : Bool) (n : Nat) (v : Value) : (Instr.checkKey e (n + 1) t v).run P w = .ok () w := by
  rcases kindNum_cases h with ⟨_, j, hk⟩ | ⟨_, hk⟩ | ⟨_, hk⟩ <;> simp [Instr.checkKey, run_underlying hk]
theorem run_checkKey' {t : TypeId} {k : Nat} (h : kindNum P t = some k) (e : Bool) (v : Value) : (Instr.checkKey e 10000 t v).run P w = .ok () w := run_checkKey h e 9999 v

theorem sameNow_rel {t : TypeId} {kk : Nat} {d : TypeDesc} (hk : kindNum P t = some kk) (hd : P.underlying t = some d) {a b : AV} {x y : Value} {r : Bool} (hka : isKind kk a = true) (ha : VRel σ E a x) (hb : VRel σ E b y) (h : flatEq a b = some r) :
    Instr.sameNow d x y = some r ∧ (r = true → x = y) := by
  unfold flatEq at h
  split at h
  · rename_i k p k' q
    obtain rfl := ha.int_inv
    obtain rfl := hb.int_inv
    split at h
    · rename_i hkk
      obtain rfl := kbeq_eq hkk
      cases h
      rcases kindNum_cases hk with ⟨rfl, j, hj⟩ | ⟨rfl, hj⟩ | ⟨rfl, hj⟩ <;> first | (simp [isKind] at hka; done) | skip
      rw [hd] at hj; cases hj
      refine ⟨by simp [Instr.sameNow]; rfl, fun hr => ?_⟩
      rw [of_decide_eq_true hr]
    · cases h
  · rename_i p q
    obtain ⟨s, rfl, hs1⟩ := ha.str_inv
    obtain ⟨s', rfl, hs2⟩ := hb.str_inv
    cases h
    rcases kindNum_cases hk with ⟨rfl, j, hj⟩ | ⟨rfl, hj⟩ | ⟨rfl, hj⟩ <;> first | (simp [isKind] at hka; done) | skip
    rw [hd] at hj; cases hj
    refine ⟨?_, fun hr => ?_⟩
    · simp only [Instr.sameNow, Option.some.injEq]
      rw [beq_toListBytes, toList_data, toList_data, ← lbeq_bytes, hs1, hs2]
    · have := lbeq_eq.1 hr
      rw [← hs1, ← hs2] at this
      have h2 := map_toNat_inj this
      have h3 : s.data = s'.data := Array.toList_inj.1 h2
      have : s = s' := by cases s; cases s'; simp at h3; rw [h3]
      rw [this]
  · rename_i p q
    obtain rfl := ha.bool_inv
    obtain rfl := hb.bool_inv
    cases h
    rcases kindNum_cases hk with ⟨rfl, j, hj⟩ | ⟨rfl, hj⟩ | ⟨rfl, hj⟩ <;> first | (simp [isKind] at hka; done) | skip
    rw [hd] at hj; cases hj
    cases p <;> cases q <;> simp [Instr.sameNow]
  · cases h

/-- What a search finds. -/
theorem find_rel {t : TypeId} {kk : Nat} {d : TypeDesc} (hk : kindNum P t = some kk) (hd : P.underlying t = some d) {k : AV} {x : Value} (hka : isKind kk k = true) (hkr : VRel σ E k x) :
    ∀ (es : List (AV × AV × Nat)) (ms : List MapEntry) (i : Nat) (r : Option (Nat × AV)), EntriesRel σ E es ms → find k es i = some r →
    match r with
    | none => Instr.findNow d x ms i = some none
    | some (j, v) => ∃ u m, Instr.findNow d x ms i = some (some (j, u)) ∧ VRel σ E v u ∧ i ≤ j ∧ ms[j - i]? = some m ∧ m.key = x ∧ ∃ k' b, es[j - i]? = some (k', v, b)
  | [], [], i, r, _, h => by cases h; rfl
  | [], _ :: _, _, _, hr, _ => hr.elim
  | _ :: _, [], _, _, hr, _ => hr.elim
  | (k', v, b) :: es, m :: ms, i, r, ⟨h1, h2, h3, h4⟩, h => by
    simp only [find] at h
    cases hf : flatEq k k' with
    | none => rw [hf] at h; cases h
    | some q =>
      rw [hf] at h
      obtain ⟨hs, heq⟩ := sameNow_rel hk hd hka hkr h1 hf
      cases q with
      | true =>
        cases h
        refine ⟨m.val, m, by simp [Instr.findNow, hs], h2, Nat.le_refl _, by simp, (heq rfl).symm, k', b, by simp⟩
      | false =>
        dsimp only at h
        have ih := find_rel hk hd hka hkr es ms (i + 1) r h4 h
        cases r with
        | none => simp only [Instr.findNow, hs]; exact ih
        | some jv =>
          obtain ⟨j, v'⟩ := jv
          obtain ⟨u, m', a1, a2, a3, a4, a5, k'', b', a6⟩ := ih
          refine ⟨u, m', by simp only [Instr.findNow, hs]; exact a1, a2, by omega, ?_, a5, k'', b', ?_⟩
          · rw [show j - i = (j - (i + 1)) + 1 by omega]; simpa using a4
          · rw [show j - i = (j - (i + 1)) + 1 by omega]; simpa using a6

theorem HObj.map_ (H : HObj σ B E g w) {id : Nat} {es : List (AV × AV × Nat)} {clock : Nat} (h : g id = some (.map es clock)) :
    ∃ b base size ms, E id = some (b, base, size) ∧ w.heap[b]? = some (.map ms clock) ∧ EntriesRel σ E es ms.toList := by
  obtain ⟨⟨b, base, size⟩, hx, _, _, ms, h1, h2⟩ := H.obj id _ h
  exact ⟨b, base, size, ms, hx, h1, h2⟩

theorem pur_look (H : HObj σ B E g w) {t kt e : TypeId} {kk : Nat} {z : AV} {ok : Bool} (ht : P.underlying t = some (.map kt e)) (hk : kindNum P kt = some kk) (hz : tzero P e = some z) {vs : List AV} {x y : Value} (hv : VRels σ E vs [x, y]) :
    Pur P σ E w (sLook kk ok z g vs) (Instr.lookup t x y ok) := by
  intro r hr
  obtain ⟨d, hd⟩ : ∃ d, P.underlying kt = some d := by
    rcases kindNum_cases hk with ⟨_, j, hj⟩ | ⟨_, hj⟩ | ⟨_, hj⟩ <;> exact ⟨_, hj⟩
  obtain ⟨zu, hzu, hzr⟩ := run_tzero (w := w) (σ := σ) hz
  have fin : ∀ (v : AV) (u : Value) (b : Bool), VRel σ E v u → r = (if ok then .tup [v, .bool b] else v) → VRel σ E r (if ok then .tuple #[u, .bool b] else u) := by
    intro v u b hvu e
    rw [e]
    cases ok
    · exact hvu
    · exact .tup _ _ (.cons _ _ _ _ hvu (.cons _ _ _ _ (.bool b) .nil))
  unfold sLook at hr
  split at hr
  · rename_i k
    obtain ⟨u, u', hu, h1, h2⟩ := hv.two_inv
    simp only [List.cons.injEq, and_true] at hu
    obtain ⟨rfl, rfl⟩ := hu
    cases h1
    split at hr
    · cases hr
      refine ⟨_, ?_, fin z zu false (hzr E) rfl⟩
      simp [Instr.lookup, run_underlying ht, run_checkKey' hk, Instr.findKey, run_underlying hd, Instr.findNow, hzu]
    · cases hr
  · rename_i id k
    obtain ⟨u, u', hu, h1, h2⟩ := hv.two_inv
    simp only [List.cons.injEq, and_true] at hu
    obtain ⟨rfl, rfl⟩ := hu
    obtain ⟨b, base, size, rfl, hE⟩ := h1.map_inv
    split at hr
    · cases hr
    · rename_i hka
      have hka' : isKind kk k = true := by simpa using hka
      split at hr
      · rename_i es clock hgo
        obtain ⟨b', base', size', ms, hx, hm, hrel⟩ := H.map_ hgo
        have e : (b', base', size') = (b, base, size) := Option.some.inj (hx.symm.trans hE)
        simp only [Prod.mk.injEq] at e
        obtain ⟨rfl, rfl, rfl⟩ := e
        have hgetm := run_getObj (P := P) hm (by intros; simp)
        split at hr
        · rename_i j v hfnd
          cases hr
          obtain ⟨u, m, a1, a2, _⟩ := find_rel hk hd hka' h2 es ms.toList 0 _ hrel hfnd
          refine ⟨_, ?_, fin v u true a2 rfl⟩
          simp [Instr.lookup, run_underlying ht, hgetm, run_checkKey' hk, Instr.findKey, run_underlying hd, a1]
        · rename_i hfnd
          cases hr
          have a1 := find_rel hk hd hka' h2 es ms.toList 0 _ hrel hfnd
          simp only at a1
          refine ⟨_, ?_, fin z zu false (hzr E) rfl⟩
          simp [Instr.lookup, run_underlying ht, hgetm, run_checkKey' hk, Instr.findKey, run_underlying hd, a1, hzu]
        · cases hr
      · cases hr
  · cases hr

theorem setVal_rel : ∀ (es : List (AV × AV × Nat)) (ms : List MapEntry) (i : Nat) (k v : AV) (x u : Value), EntriesRel σ E es ms → VRel σ E k x → VRel σ E v u → EntriesRel σ E (setVal es i k v) (ms.modify i fun e => { e with key := x, val := u })
  | [], [], i, _, _, _, _, _, _, _ => by cases i <;> trivial
  | [], _ :: _, _, _, _, _, _, hr, _, _ => hr.elim
  | _ :: _, [], _, _, _, _, _, hr, _, _ => hr.elim
  | (k', v', b) :: es, m :: ms, 0, k, v, x, u, ⟨h1, h2, h3, h4⟩, hk, hv => by simpa [setVal] using ⟨hk, hv, h3, h4⟩
  | (k', v', b) :: es, m :: ms, i + 1, k, v, x, u, ⟨h1, h2, h3, h4⟩, hk, hv => by
    have := setVal_rel es ms i k v x u h4 hk hv
    exact ⟨h1, h2, h3, this⟩
theorem push_rel : ∀ (es : List (AV × AV × Nat)) (ms : List MapEntry) (k v : AV) (c : Nat) (m : MapEntry), EntriesRel σ E es ms → VRel σ E k m.key → VRel σ E v m.val → m.born = c → EntriesRel σ E (es ++ [(k, v, c)]) (ms ++ [m])
  | [], [], _, _, _, _, _, hk, hv, hb => ⟨hk, hv, hb, trivial⟩
  | [], _ :: _, _, _, _, _, hr, _, _, _ => hr.elim
  | _ :: _, [], _, _, _, _, hr, _, _, _ => hr.elim
  | (_, _, _) :: es, _ :: ms, k, v, c, m, ⟨h1, h2, h3, h4⟩, hk, hv, hb => ⟨h1, h2, h3, push_rel es ms k v c m h4 hk hv hb⟩
theorem delAt_rel : ∀ (es : List (AV × AV × Nat)) (ms : List MapEntry) (i : Nat), EntriesRel σ E es ms → EntriesRel σ E (delAt es i) (ms.eraseIdx i)
  | [], [], i, _ => by cases i <;> trivial
  | [], _ :: _, _, hr => hr.elim
  | _ :: _, [], _, hr => hr.elim
  | (k', v', b) :: es, m :: ms, 0, ⟨h1, h2, h3, h4⟩ => h4
  | (k', v', b) :: es, m :: ms, i + 1, ⟨h1, h2, h3, h4⟩ => ⟨h1, h2, h3, delAt_rel es ms i h4⟩

theorem sameBits_flat {k : AV} {x : Value} {kk : Nat} (h : VRel σ E k x) (hk : isKind kk k = true) (n : Nat) : Instr.sameBits n x x = true := by
  cases k <;> first | (simp [isKind] at hk; done) | skip
  · obtain rfl := h.bool_inv; cases n <;> simp [Instr.sameBits]
  · obtain rfl := h.int_inv; cases n <;> simp [Instr.sameBits]
  · obtain ⟨s, rfl, _⟩ := h.str_inv
    have : (s == s) = true := by rw [beq_toListBytes]; simp
    cases n <;> simp [Instr.sameBits, this]

/-- A map object written anew. -/
theorem SPost.mapw (H : HObj σ B E g w) (hn : E nid = none) {id : Nat} {es es' : List (AV × AV × Nat)} {clock clock' : Nat} {b base size : Nat} {ms' : Array MapEntry} (hgo : g id = some (.map es clock)) (hE : E id = some (b, base, size))
    (hw : Wrote w b (.map ms' clock') w') (hr : EntriesRel σ E es' ms'.toList) : SPost σ B E g w nid (.tup []) [(id, some (.map es' clock'))] undef w' E :=
  SPost.write H hn hgo hE hw.size hw.other hw.os hw.tape hw.out (by show ORel σ E _ _ (w'.heap[b]?); rw [hw.at_]; exact ⟨ms', rfl, hr⟩) (.tup _ _ .nil)

theorem does_mset (H : HObj σ B E g w) (hn : E nid = none) {t kt e : TypeId} {kk : Nat} (ht : P.underlying t = some (.map kt e)) (hk : kindNum P kt = some kk) {vs : List AV} {x y z : Value} (hv : VRels σ E vs [x, y, z])
    (hne : sMset kk g vs ≠ []) : Does P σ B E g w nid (sMset kk g vs) (do Instr.mapUpdate t x y z; pure undef) := by
  obtain ⟨d, hd⟩ : ∃ d, P.underlying kt = some d := by
    rcases kindNum_cases hk with ⟨_, j, hj⟩ | ⟨_, hj⟩ | ⟨_, hj⟩ <;> exact ⟨_, hj⟩
  unfold sMset at hne ⊢
  split at hne
  · rename_i id k v
    obtain ⟨u, u', u'', hu, h1, h2, h3⟩ := hv.three_inv
    simp only [List.cons.injEq, and_true] at hu
    obtain ⟨rfl, rfl, rfl⟩ := hu
    obtain ⟨b, base, size, rfl, hE⟩ := h1.map_inv
    split at hne
    · exact absurd rfl hne
    · rename_i hka
      have hka' : isKind kk k = true := by simpa using hka
      rw [if_neg hka]
      split at hne
      · rename_i es clock hgo
        obtain ⟨b', base', size', ms, hx, hm, hrel⟩ := H.map_ hgo
        have e : (b', base', size') = (b, base, size) := Option.some.inj (hx.symm.trans hE)
        simp only [Prod.mk.injEq] at e
        obtain ⟨rfl, rfl, rfl⟩ := e
        have hgetm := run_getObj (P := P) hm (by intros; simp)
        split at hne
        · rename_i j v' hfnd
          obtain ⟨u, m, a1, a2, _, a4, a5, _⟩ := find_rel hk hd hka' h2 es ms.toList 0 _ hrel hfnd
          have hmj : ms[j]? = some m := by simpa using a4
          obtain ⟨w', hrun, hw⟩ := run_setObj (P := P) (o' := .map (ms.modify j fun e => { e with key := y, val := z }) clock) hm (by intros; simp)
          refine ⟨_, _, undef, w', E, List.mem_cons_self, ?_, SPost.mapw H hn hgo hx hw (by rw [Array.toList_modify]; exact setVal_rel es ms.toList j k v y z hrel h2 h3)⟩
          simp [Instr.mapUpdate, run_underlying ht, hgetm, run_checkKey' hk, Instr.findKey, run_underlying hd, a1, hmj, a5, Instr.keyThatStays, sameBits_flat h2 hka', hrun]
        · rename_i hfnd
          have a1 := find_rel hk hd hka' h2 es ms.toList 0 _ hrel hfnd
          simp only at a1
          obtain ⟨w', hrun, hw⟩ := run_setObj (P := P) (o' := .map (ms.push { key := y, val := z, born := clock }) (clock + 1)) hm (by intros; simp)
          rw [force_eq]
          refine ⟨_, _, undef, w', E, List.mem_cons_self, ?_, SPost.mapw H hn hgo hx hw (by rw [Array.toList_push]; exact push_rel es ms.toList k v clock { key := y, val := z, born := clock } hrel h2 h3 rfl)⟩
          simp [Instr.mapUpdate, run_underlying ht, hgetm, run_checkKey' hk, Instr.findKey, run_underlying hd, a1, hrun]
        · exact absurd rfl hne
      · exact absurd rfl hne
  · exact absurd rfl hne

theorem does_mdel (H : HObj σ B E g w) (hn : E nid = none) {t kt e ty : TypeId} {kk : Nat} {ts : Array TypeId} (h0 : ts[0]? = some t) (ht : P.underlying t = some (.map kt e)) (hk : kindNum P kt = some kk) {vs : List AV} {x y : Value} (hv : VRels σ E vs [x, y])
    (hne : sMdel kk g vs ≠ []) : Does P σ B E g w nid (sMdel kk g vs) (Builtin.delete_ ts ty #[x, y]) := by
  obtain ⟨d, hd⟩ : ∃ d, P.underlying kt = some d := by
    rcases kindNum_cases hk with ⟨_, j, hj⟩ | ⟨_, hj⟩ | ⟨_, hj⟩ <;> exact ⟨_, hj⟩
  unfold sMdel at hne ⊢
  split at hne
  · obtain ⟨u, u', hu, h1, h2⟩ := hv.two_inv
    simp only [List.cons.injEq, and_true] at hu
    obtain ⟨rfl, rfl⟩ := hu
    cases h1
    split at hne
    · rename_i hka
      rw [if_pos hka]
      refine ⟨_, _, .tuple #[], w, E, List.mem_cons_self, ?_, SPost.pure H hn (.tup _ _ .nil) (Drew.refl w)⟩
      simp [Builtin.delete_, h0, run_underlying ht, run_checkKey' hk]
    · exact absurd rfl hne
  · rename_i id k
    obtain ⟨u, u', hu, h1, h2⟩ := hv.two_inv
    simp only [List.cons.injEq, and_true] at hu
    obtain ⟨rfl, rfl⟩ := hu
    obtain ⟨b, base, size, rfl, hE⟩ := h1.map_inv
    split at hne
    · exact absurd rfl hne
    · rename_i hka
      have hka' : isKind kk k = true := by simpa using hka
      rw [if_neg hka]
      split at hne
      · rename_i es clock hgo
        obtain ⟨b', base', size', ms, hx, hm, hrel⟩ := H.map_ hgo
        have e : (b', base', size') = (b, base, size) := Option.some.inj (hx.symm.trans hE)
        simp only [Prod.mk.injEq] at e
        obtain ⟨rfl, rfl, rfl⟩ := e
        have hgetm := run_getObj (P := P) hm (by intros; simp)
        split at hne
        · rename_i j v' hfnd
          obtain ⟨u, m, a1, a2, _, a4, a5, _⟩ := find_rel hk hd hka' h2 es ms.toList 0 _ hrel hfnd
          obtain ⟨w', hrun, hw⟩ := run_setObj (P := P) (o' := .map (ms.eraseIdxIfInBounds j) clock) hm (by intros; simp)
          refine ⟨_, _, undef, w', E, List.mem_cons_self, ?_, SPost.mapw H hn hgo hx hw (by rw [Array.toList_eraseIdxIfInBounds]; exact delAt_rel es ms.toList j hrel)⟩
          simp [Builtin.delete_, h0, run_underlying ht, hgetm, run_checkKey' hk, Instr.findKey, run_underlying hd, a1, hrun, undef]
        · rename_i hfnd
          have a1 := find_rel hk hd hka' h2 es ms.toList 0 _ hrel hfnd
          simp only at a1
          obtain ⟨w', hrun, hw⟩ := run_setObj (P := P) (o' := .map ms clock) hm (by intros; simp)
          refine ⟨_, _, undef, w', E, List.mem_cons_self, ?_, ?_⟩
          · simp [Builtin.delete_, h0, run_underlying ht, hgetm, run_checkKey' hk, Instr.findKey, run_underlying hd, a1, hrun, undef]
          · have hsame : ∀ k : Nat, w'.heap[k]? = w.heap[k]? := fun k => by
              by_cases hkb : k = b'
              · subst hkb; rw [hw.at_, hm]
              · exact hw.other k hkb
            exact { val := .tup _ _ .nil, heap := H.agree (by rw [hw.size]; exact Nat.le_refl _) (fun _ _ _ _ _ => hsame _), keep := fun _ _ => rfl, le := Emb.le.refl E, size := by rw [hw.size]; exact Nat.le_refl _,
                    frame := fun b _ _ => hsame b, os := hw.os, tape := hw.tape, out := hw.out, new := fun x hx => (by rw [hn] at hx; cases hx), dom := fun i o h => .inr ⟨o, h⟩, same := fun _ => rfl }
        · exact absurd rfl hne
      · exact absurd rfl hne
  · exact absurd rfl hne
end Go.Hx
