/- One operation: loads, stores, new objects. -/
import Derived.Test.YtdbdebcakemmbaaGreatDoorHxSmallC
import Derived.Laws.MakeOwn
import Derived.Laws.BytesArg
namespace Go.Hx
open Go
variable {σ : Nat → Value} {B : Nat} {E E' : Emb} {g : Nat → Option AO} {w w' : World} {nid : Nat} {P : Program} {ot : MOp → List AV → Option AV} {gm : Nat → Nat → Option AV}

/-- Package-level variables hold what they are said to. -/
def GmOk (σ : Nat → Value) (gm : Nat → Nat → Option AV) (w : World) : Prop := ∀ g off v, gm g off = some v → ∃ u, w.cell? ⟨g, off, none⟩ = some u ∧ ∀ E, VRel σ E v u

theorem gRange_spec : ∀ (n : Nat) (gm : Nat → Nat → Option AV) (g off : Nat) (l : List AV), gRange gm g off n = some l → l.length = n ∧ ∀ j v, l[j]? = some v → gm g (off + j) = some v
  | 0, gm, g, off, l, h => by simp only [gRange, Option.some.injEq] at h; subst h; simp
  | n + 1, gm, g, off, l, h => by
    simp only [gRange] at h
    split at h
    · rename_i v l' hv hl
      cases h
      obtain ⟨h1, h2⟩ := gRange_spec n gm g (off + 1) l' hl
      refine ⟨by simp [h1], fun j u hj => ?_⟩
      cases j with
      | zero => simp at hj; subst hj; exact hv
      | succ j => have := h2 j u (by simpa using hj); rw [show off + (j + 1) = off + 1 + j by omega]; exact this
    · cases h

/-- n cells that are there, as values. -/
theorem cells_list {l : List AV} {n : Nat} (hl : l.length = n) {a : Addr} (h : ∀ (j : Nat) (v : AV), l[j]? = some v → ∃ u, w.cell? (a.add j) = some u ∧ VRel σ E v u) :
    ∃ us : List Value, VRels σ E l us ∧ (loadCells a n).run P w = .ok us.toArray w ∧ ∀ (j : Nat) (u : Value), us[j]? = some u → w.cell? (a.add j) = some u := by
  have hx : ∃ us : List Value, us.length = l.length ∧ ∀ (j : Nat) (v : AV), l[j]? = some v → ∃ u, us[j]? = some u ∧ w.cell? (a.add j) = some u ∧ VRel σ E v u := by
    refine ⟨(List.range l.length).map fun j => (w.cell? (a.add j)).getD undef, by simp, fun j v hv => ?_⟩
    obtain ⟨u, hu, hr⟩ := h j v hv
    have hlt : j < l.length := by
      rcases Nat.lt_or_ge j l.length with h' | h'
      · exact h'
      · rw [List.getElem?_eq_none h'] at hv; cases hv
    exact ⟨u, by simp [hlt, hu], hu, hr⟩
  obtain ⟨us, hlen, hus⟩ := hx
  have hrels : VRels σ E l us := VRels.of_get hlen.symm fun i v hv => let ⟨u, a, _, b⟩ := hus i v hv; ⟨u, a, b⟩
  have hcell : ∀ (j : Nat) (u : Value), us[j]? = some u → w.cell? (a.add j) = some u := by
    intro j u hj
    have hlt : j < us.length := by
      rcases Nat.lt_or_ge j us.length with h' | h'
      · exact h'
      · rw [List.getElem?_eq_none h'] at hj; cases hj
    obtain ⟨u', h1, h2, _⟩ := hus j _ (List.getElem?_eq_getElem (show j < l.length by omega))
    rw [h1] at hj
    cases hj
    exact h2
  refine ⟨us, hrels, ?_, hcell⟩
  have := run_loadCells_list (P := P) w a us hcell
  rwa [hlen, hl] at this

theorem pur_load (H : HObj σ B E g w) (hg : GmOk σ gm w) {t : TypeId} {n : Option Nat} {vs : List AV} {x : Value} (ht : tload P t = some n) (hv : VRels σ E vs [x]) : Pur P σ E w (sLoad gm n g vs) (Instr.loadAt t x) := by
  intro r hr
  have hty : (n = none ∧ tagg P t = some false) ∨ ∃ m, n = some m ∧ tagg P t = some true ∧ tsize P t = some m := by
    unfold tload at ht
    split at ht
    · rename_i m h1 h2; cases ht; exact .inr ⟨m, rfl, h1, h2⟩
    · rename_i h1 h2; cases ht; exact .inl ⟨rfl, h1⟩
    · cases ht
  unfold sLoad at hr
  split at hr
  · rename_i id off
    obtain ⟨u, hu, h1⟩ := hv.one_inv
    simp only [List.cons.injEq, and_true] at hu; subst hu
    obtain ⟨b, base, size, rfl, hE⟩ := h1.ptr_inv
    split at hr
    · rename_i cs lo closed hgo
      obtain ⟨b', base', size', c, elem, frz, hx, _, _, hb, _, _, _, hcs, _⟩ := H.cells hgo
      have e : (b', base', size') = (b, base, size) := Option.some.inj (hx.symm.trans hE)
      simp only [Prod.mk.injEq] at e
      obtain ⟨rfl, rfl, rfl⟩ := e
      rcases hty with ⟨rfl, ha⟩ | ⟨m, rfl, ha, hs⟩
      · obtain ⟨_, u, hu, hrel, _⟩ := hcs off r hr
        refine ⟨u, ?_, hrel⟩
        have hc : w.cell? ⟨b', base' + off, none⟩ = some u := by rw [cell_at hb]; exact hu
        simp [Instr.loadAt, Instr.sureAddr, loadVar, run_tagg ha, hc]
      · dsimp only at hr
        cases hgr : getRange cs off m with
        | none => rw [hgr] at hr; cases hr
        | some l =>
          rw [hgr] at hr
          cases hr
          obtain ⟨hl, hget⟩ := getRange_spec _ _ _ _ hgr
          obtain ⟨us, hrels, hrun, _⟩ := cells_list (P := P) (w := w) (σ := σ) (E := E) hl (a := ⟨b', base' + off, none⟩) (fun j v hj => by
            obtain ⟨_, u, hu, hrel, _⟩ := hcs _ v (hget j v hj)
            exact ⟨u, by rw [add_addr, cell_at hb, Nat.add_assoc]; exact hu, hrel⟩)
          refine ⟨.agg us.toArray, ?_, .agg _ _ (by simpa using hrels)⟩
          simp [Instr.loadAt, Instr.sureAddr, loadVar, run_tagg ha, run_tsize hs, hrun]
    · cases hr
  · rename_i gg off
    obtain ⟨u, hu, h1⟩ := hv.one_inv
    simp only [List.cons.injEq, and_true] at hu; subst hu
    cases h1
    rcases hty with ⟨rfl, ha⟩ | ⟨m, rfl, ha, hs⟩
    · obtain ⟨u, hc, hrel⟩ := hg gg off r hr
      exact ⟨u, by simp [Instr.loadAt, Instr.sureAddr, loadVar, run_tagg ha, hc], hrel E⟩
    · dsimp only at hr
      cases hgr : gRange gm gg off m with
      | none => rw [hgr] at hr; cases hr
      | some l =>
        rw [hgr] at hr
        cases hr
        obtain ⟨hl, hget⟩ := gRange_spec _ _ _ _ _ hgr
        obtain ⟨us, hrels, hrun, _⟩ := cells_list (P := P) (w := w) (σ := σ) (E := E) hl (a := ⟨gg, off, none⟩) (fun j v hj => by
          obtain ⟨u, hu, hrel⟩ := hg _ _ v (hget j v hj)
          exact ⟨u, by rw [add_addr]; exact hu, hrel E⟩)
        refine ⟨.agg us.toArray, ?_, .agg _ _ (by simpa using hrels)⟩
        simp [Instr.loadAt, Instr.sureAddr, loadVar, run_tagg ha, run_tsize hs, hrun]
  · cases hr

/-- Cells written into a row. -/
theorem orel_put (hσ : OneOpq σ) {cs : T AV} {lo off : Nat} {closed : Bool} {b base size : Nat} {c : Array Value} {elem : TypeId} {frz : Nat × Nat} {l : List AV} {us : List Value} (hsz : c.size = size) (hlo : base + lo ≤ size) (hcl : closed = true → base + lo = size ∧ base = 0)
    (hcs : ∀ i v, cs.get i = some v → i < lo ∧ ∃ u, c[base + i]? = some u ∧ VRel σ E v u ∧ u.oneCell' = true) (hfz : ∀ off, base ≤ off → off < size → ¬ (frz.1 ≤ off ∧ off < frz.2))
    (hl : VRels σ E l us) (h1 : allOne l = true) (hle : off + l.length ≤ lo) :
    ORel σ E (b, base, size) (.cells (putList cs off l) lo closed) (some (.cells (setMany c (base + off) us) elem frz)) := by
  have hlen := hl.length
  refine ⟨_, _, _, rfl, by rw [setMany_size]; exact hsz, hlo, hcl, fun i v hv => ?_, hfz⟩
  rw [putList_get] at hv
  simp only
  rw [setMany_get _ _ _ _ (by omega), ← hlen]
  split at hv
  · rename_i hc
    rw [if_pos (by omega)]
    obtain ⟨u, hu, hrel⟩ := hl.get hv
    refine ⟨by omega, u, by rw [show base + i - (base + off) = i - off by omega]; exact hu, hrel, hrel.one hσ (allOne_spec h1 v (List.mem_of_getElem? hv))⟩
  · rename_i hc
    rw [if_neg (by omega)]
    exact hcs i v hv

/-- A block of cells written, as a step. -/
theorem SPost.put (hσ : OneOpq σ) (H : HObj σ B E g w) (hn : E nid = none) {id off lo : Nat} {cs : T AV} {closed : Bool} {b base size : Nat} {c : Array Value} {elem : TypeId} {frz : Nat × Nat} {l : List AV} {us : List Value} {r : AV} {u : Value}
    (hgo : g id = some (.cells cs lo closed)) (hE : E id = some (b, base, size)) (hsz : c.size = size) (hlo : base + lo ≤ size) (hcl : closed = true → base + lo = size ∧ base = 0)
    (hcs : ∀ i v, cs.get i = some v → i < lo ∧ ∃ u, c[base + i]? = some u ∧ VRel σ E v u ∧ u.oneCell' = true) (hfz : ∀ off, base ≤ off → off < size → ¬ (frz.1 ≤ off ∧ off < frz.2))
    (hl : VRels σ E l us) (h1 : allOne l = true) (hle : off + l.length ≤ lo) (hw : Wrote w b (.cells (setMany c (base + off) us) elem frz) w') (hr : VRel σ E r u) :
    SPost σ B E g w nid r [(id, some (.cells (putList cs off l) lo closed))] u w' E :=
  SPost.write H hn hgo hE hw.size hw.other hw.os hw.tape hw.out (by show ORel σ E _ _ (w'.heap[b]?); rw [hw.at_]; exact orel_put hσ hsz hlo hcl hcs hfz hl h1 hle) hr

theorem does_store (hσ : OneOpq σ) (H : HObj σ B E g w) (hn : E nid = none) {t : TypeId} {n : Nat} {vs : List AV} {x y : Value} (ht : tsize P t = some n) (hv : VRels σ E vs [x, y]) (hne : sStore n g vs ≠ []) :
    Does P σ B E g w nid (sStore n g vs) (do Instr.storeAt t x y; pure undef) := by
  unfold sStore at hne ⊢
  split at hne
  · rename_i id off v
    obtain ⟨u, u', hu, h1, h2⟩ := hv.two_inv
    simp only [List.cons.injEq, and_true] at hu
    obtain ⟨rfl, rfl⟩ := hu
    obtain ⟨b, base, size, rfl, hE⟩ := h1.ptr_inv
    split at hne
    · rename_i cs lo closed hgo
      dsimp only at hne ⊢
      split at hne
      · rename_i hc
        rw [if_pos hc]
        simp only [Bool.and_eq_true] at hc
        have hlen := Nat.eq_of_beq_eq_true hc.1.1
        have hle := Nat.le_of_ble_eq_true hc.1.2
        obtain ⟨b', base', size', c, elem, frz, hx, _, _, hb, hsz, hlo, hcl, hcs, hfz⟩ := H.cells hgo
        have e : (b', base', size') = (b, base, size) := Option.some.inj (hx.symm.trans hE)
        simp only [Prod.mk.injEq] at e
        obtain ⟨rfl, rfl, rfl⟩ := e
        have hcr := h2.cells hσ hc.2
        have hcl' := hcr.length
        simp only [Array.length_toList] at hcl'
        obtain ⟨w', hrun, hw⟩ := run_storeCells (P := P) b' (base' + off) elem frz y.cells.toList 0 c w hb (by simp; omega) (hcr.ones hσ hc.2) (fun j hj hj' => hfz j (by omega) (by simp at hj'; omega))
        refine ⟨.tup [], _, undef, w', E, List.mem_cons_self, ?_, SPost.put hσ H hn hgo hx hsz hlo hcl hcs hfz hcr hc.2 (by omega) hw (.tup _ _ .nil)⟩
        have hcs2 : ¬ (y.cells.size ≠ n) := by omega
        simp only [Instr.storeAt, Instr.sureAddr, storeVar, Sem.run_bind, Sem.run_pure, Result.andThen_ok, run_tsize ht, Sem.run_ite, if_neg hcs2, hrun]
      · exact absurd rfl hne
    · exact absurd rfl hne
  · exact absurd rfl hne
end Go.Hx
/- One operation: what makes a new object. -/
namespace Go.Hx
open Go
variable {σ : Nat → Value} {B : Nat} {E E' : Emb} {g : Nat → Option AO} {w w' : World} {nid : Nat} {P : Program} {ot : MOp → List AV → Option AV} {gm : Nat → Nat → Option AV}

/-- A new row of cells, known whole. -/
theorem SPost.row (hσ : OneOpq σ) (H : HObj σ B E g w) (hn : E nid = none) (hB : B ≤ w.heap.size) {l : List AV} {c : Array Value} (h : VRels σ E l c.toList) (h1 : allOne l = true) (elem : TypeId) (closed : Bool) {r : AV} {u : Value}
    (hr : VRel σ (E.put nid (w.heap.size, 0, c.size)) r u) : SPost σ B E g w nid r [(nid, some (.cells (ofList l) l.length closed))] u (w.alloc (.cells c elem)) (E.put nid (w.heap.size, 0, c.size)) :=
  SPost.alloc (w' := w.alloc (.cells c elem)) (ob := .cells c elem) H hn hB rfl rfl rfl rfl hr (orel_row hσ (h.mono (Emb.le_put hn)) h1 _ elem closed)

theorem does_alloc (hσ : OneOpq σ) (H : HObj σ B E g w) (hn : E nid = none) (hB : B ≤ w.heap.size) {t : TypeId} {z : AV} (hz : tzero P t = some z) {vs : List AV} (hne : sAlloc (cellsOf z) nid vs ≠ []) (old : Value) :
    Does P σ B E g w nid (sAlloc (cellsOf z) nid vs) (Instr.alloc t true old) := by
  unfold sAlloc at hne ⊢
  split at hne
  · split at hne
    · rename_i h1
      simp only [if_pos h1]
      obtain ⟨u, hu, hrel⟩ := run_tzero (w := w) (σ := σ) hz
      have hc := (hrel E).cells hσ h1
      refine ⟨_, _, _, _, _, List.mem_cons_self, ?_, SPost.row hσ H hn hB hc h1 t true (.ptr _ _ _ _ _ Emb.put_same)⟩
      cases old <;> simp [Instr.alloc, hu, newVar, newRow]
    · exact absurd rfl hne
  · exact absurd rfl hne
theorem does_box (hσ : OneOpq σ) (H : HObj σ B E g w) (hn : E nid = none) (hB : B ≤ w.heap.size) {t : TypeId} {vs : List AV} {x : Value} (hv : VRels σ E vs [x]) (hne : sBox nid vs ≠ []) :
    Does P σ B E g w nid (sBox nid vs) (Instr.box t x) := by
  unfold sBox at hne ⊢
  split at hne
  · rename_i v
    obtain ⟨u, hu, h1⟩ := hv.one_inv
    simp only [List.cons.injEq, and_true] at hu; subst hu
    dsimp only at hne ⊢
    split at hne
    · rename_i ho
      rw [if_pos ho]
      refine ⟨_, _, _, _, _, List.mem_cons_self, ?_, SPost.row hσ H hn hB (h1.cells hσ ho) ho t true (.ptr _ _ _ _ _ Emb.put_same)⟩
      simp [Instr.box, newVar, newRow]
    · exact absurd rfl hne
  · exact absurd rfl hne

theorem rep_zero (z : List AV) : rep 0 z = [] := rfl
theorem rep_succ (n : Nat) (z : List AV) : rep (n + 1) z = z ++ rep n z := rfl
theorem rep_length (n : Nat) (z : List AV) : (rep n z).length = n * z.length := by
  induction n with
  | zero => simp [rep_zero]
  | succ n ih => rw [rep_succ, List.length_append, ih, Nat.succ_mul, Nat.add_comm]
theorem rep_get (z : List AV) : ∀ (n i : Nat), i < n * z.length → (rep n z)[i]? = z[i % z.length]?
  | 0, i, h => by simp at h
  | n + 1, i, h => by
    rw [rep_succ]
    by_cases hi : i < z.length
    · rw [List.getElem?_append_left hi, Nat.mod_eq_of_lt hi]
    · rw [List.getElem?_append_right (by omega), rep_get z n (i - z.length) (by rw [Nat.succ_mul] at h; omega)]
      congr 1
      exact (Nat.mod_eq_sub_mod (by omega)).symm
/-- Zero values, one behind the other. -/
theorem rep_rel {z : List AV} {c : Array Value} (h : VRels σ E z c.toList) (n m : Nat) (hm : m = n * z.length) : VRels σ E (rep n z) ((Array.range m).map (c[· % c.size]!)).toList := by
  have hl := h.length
  simp only [Array.length_toList] at hl
  subst hm
  refine VRels.of_get (by simp [rep_length]) fun i v hv => ?_
  have hlt : i < n * z.length := by
    rcases Nat.lt_or_ge i (n * z.length) with h' | h'
    · exact h'
    · rw [List.getElem?_eq_none (by rw [rep_length]; exact h')] at hv; cases hv
  rw [rep_get z n i hlt] at hv
  obtain ⟨u, hu, hr⟩ := h.get hv
  refine ⟨u, ?_, hr⟩
  rw [Array.getElem?_toList] at hu
  rw [hl] at hu
  have hlt2 : i % c.size < c.size := by
    rcases Nat.lt_or_ge (i % c.size) c.size with h' | h'
    · exact h'
    · rw [Array.getElem?_eq_none h'] at hu; cases hu
  simp only [Array.toList_map, Array.toList_range, List.getElem?_map, List.getElem?_range hlt, Option.map_some]
  rw [getElem!_pos c (i % c.size) hlt2]
  rw [Array.getElem?_eq_getElem hlt2] at hu
  exact hu

theorem allOne_append {a b : List AV} : allOne (a ++ b) = (allOne a && allOne b) := by
  induction a with
  | nil => simp [allOne]
  | cons v vs ih => simp [allOne, ih, Bool.and_assoc]
theorem allOne_rep {z : List AV} (h : allOne z = true) (n : Nat) : allOne (rep n z) = true := by
  induction n with
  | zero => rfl
  | succ n ih => rw [rep_succ, allOne_append, h, ih]; rfl

theorem does_bslice (hσ : OneOpq σ) (H : HObj σ B E g w) (hn : E nid = none) (hB : B ≤ w.heap.size) {t e : TypeId} {len es : Nat} {z : AV} {parts : Array (Nat × Operand)} {ps : List (Nat × Nat)} {ρ : Operand → Value} {vs : List AV} (ht : P.underlying t = some (.slice e))
    (he : tsize P e = some es) (hz : tzero P e = some z) (hp : cParts P (fun i => some (i * es, es)) parts.toList = some ps) (hle : len * es ≤ 16777216) (hzl : (cellsOf z).length = es) (hone : allOne (cellsOf z) = true) (hv : VRels σ E vs (parts.toList.map fun p => ρ p.2))
    (hne : sBslice (cellsOf z) len es ps nid vs ≠ []) : Does P σ B E g w nid (sBslice (cellsOf z) len es ps nid vs) (Instr.buildSlice t len (parts.map fun (i, x) => (i, ρ x))) := by
  unfold sBslice at hne ⊢
  split at hne
  · rename_i l hl
    split at hne
    · rename_i hc
      simp only [if_pos hc]
      simp only [Bool.and_eq_true] at hc
      have hlen := Nat.eq_of_beq_eq_true hc.1
      obtain ⟨u, hu, hrel⟩ := run_tzero (w := w) (σ := σ) hz
      -- the zero values
      have hzc : ∀ (hone : allOne (cellsOf z) = true), VRels σ E (rep len (cellsOf z)) ((Array.range (len * es)).map (u.cells[· % u.cells.size]!)).toList := fun hone => rep_rel ((hrel E).cells hσ hone) len (len * es) (by rw [hzl])
      have fillE : (parts.map fun (x : Nat × Operand) => (x.1, ρ x.2)).toList = parts.toList.map fun p => (p.1, ρ p.2) := by simp
      by_cases h0 : len * es = 0
      · have hrep : rep len (cellsOf z) = [] := List.eq_nil_of_length_eq_zero (by rw [rep_length, hzl, h0])
        rw [hrep] at hl
        obtain ⟨c', hf, hr⟩ := fill_rel hσ (P := P) _ parts.toList ps ρ vs [] #[] l hp hv .nil hl
        refine ⟨_, _, _, _, _, List.mem_cons_self, ?_, SPost.row hσ H hn hB hr hc.2 e true (.slice _ _ _ _ _ _ _ _ _ Emb.put_same rfl (Nat.le_refl _))⟩
        have hn2 : ¬ (len * es > 2 ^ 24) := by omega
        simp only [Instr.buildSlice, Sem.run_bind, run_underlying ht, Result.andThen_ok, run_tsize he, Sem.run_ite, if_neg hn2, Sem.run_pure, if_pos h0]
        show Sem.run P (match Instr.fill (fun i => some (i * es, es)) ((Array.range (len * es)).map ((#[] : Array Value)[· % (#[] : Array Value).size]!)) (parts.map fun (x : Nat × Operand) => (x.1, ρ x.2)).toList with
          | some cells => (do pure (.slice (some (← newRow e cells)) len len) : Sem Value)
          | _ => stuck "buildSlice: a part of the wrong size") w = _
        rw [h0, fillE]
        have : ((Array.range 0).map ((#[] : Array Value)[· % (#[] : Array Value).size]!)) = #[] := by simp
        rw [this, hf]
        simp [newRow]
      · obtain ⟨c', hf, hr⟩ := fill_rel hσ (P := P) _ parts.toList ps ρ vs _ _ l hp hv (hzc hone) hl
        refine ⟨_, _, _, _, _, List.mem_cons_self, ?_, SPost.row hσ H hn hB hr hc.2 e true (.slice _ _ _ _ _ _ _ _ _ Emb.put_same rfl (Nat.le_refl _))⟩
        have hn2 : ¬ (len * es > 2 ^ 24) := by omega
        simp only [Instr.buildSlice, Sem.run_bind, run_underlying ht, Result.andThen_ok, run_tsize he, Sem.run_ite, if_neg hn2, Sem.run_pure, if_neg h0, hu]
        show Sem.run P (match Instr.fill (fun i => some (i * es, es)) ((Array.range (len * es)).map (u.cells[· % u.cells.size]!)) (parts.map fun (x : Nat × Operand) => (x.1, ρ x.2)).toList with
          | some cells => (do pure (.slice (some (← newRow e cells)) len len) : Sem Value)
          | _ => stuck "buildSlice: a part of the wrong size") w = _
        rw [fillE, hf]
        simp [newRow]
    · exact absurd rfl hne
  · exact absurd rfl hne
end Go.Hx
