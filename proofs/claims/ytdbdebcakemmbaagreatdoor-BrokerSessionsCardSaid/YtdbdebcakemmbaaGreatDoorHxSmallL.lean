/- One operation: copy and clear. -/
import Derived.Test.YtdbdebcakemmbaaGreatDoorHxSmallK
namespace Go.Hx
open Go
variable {σ : Nat → Value} {B : Nat} {E E' : Emb} {g : Nat → Option AO} {w w' : World} {nid : Nat} {P : Program} {ot : MOp → List AV → Option AV} {gm : Nat → Nat → Option AV}

theorem src_len {xv : AV} {x : Value} (hx : VRel σ E xv x) {k : Nat} (hl : srcLen xv = some k) (w : World) : (Builtin.lenOf x).run P w = .ok k w := by
  unfold srcLen at hl
  split at hl
  · cases hl; cases hx; simp [Builtin.lenOf]
  · cases hl
    obtain ⟨b, rfl, hb⟩ := hx.str_inv
    have : b.size = (b.data.toList.map UInt8.toNat).length := by simp
    rw [← hb, ← this]
    simp [Builtin.lenOf]
  · cases hl; cases hx <;> simp [Builtin.lenOf]
  · cases hl
theorem src_cells (H : HObj σ B E g w) {xv : AV} {x : Value} (hx : VRel σ E xv x) {k : Nat} (hl : srcLen xv = some k) {es n : Nat} (hn : n ≤ k) {l : List AV} (hc : srcCells es n g xv = some l) :
    ∃ us, VRels σ E l us ∧ (∀ w', w'.heap = w.heap → (Builtin.firstCells es n x).run P w' = .ok us.toArray w') := by
  unfold srcCells at hc
  split at hc
  · cases hc; cases hx; cases hl
    have : n = 0 := by omega
    subst this
    exact ⟨[], .nil, fun w' _ => by simp [Builtin.firstCells]⟩
  · cases hc
    obtain ⟨b, rfl, hb⟩ := hx.str_inv
    obtain ⟨us, hr, hf⟩ := str_src (P := P) (σ := σ) (E := E) hb n es
    exact ⟨us, hr, fun w' _ => hf w'⟩
  · split at hc
    · rename_i cs lo closed hgo
      cases hl
      exact slice_src (P := P) H hgo hx n hn hc
    · cases hc
  · cases hc
theorem does_cpy (hσ : OneOpq σ) (H : HObj σ B E g w) (hn : E nid = none) {t e ty : TypeId} {ts : Array TypeId} {es : Nat} (h0 : ts[0]? = some t) (ht : P.underlying t = some (.slice e)) (hz : tsize P e = some es) {vs : List AV} {x y : Value} (hv : VRels σ E vs [x, y])
    (hne : sCpy es g vs ≠ []) : Does P σ B E g w nid (sCpy es g vs) (Builtin.copy_ ts ty #[x, y]) := by
  unfold sCpy at hne ⊢
  split at hne
  · rename_i xv
    obtain ⟨u, u', hu, h1, h2⟩ := hv.two_inv
    simp only [List.cons.injEq, and_true] at hu
    obtain ⟨rfl, rfl⟩ := hu
    cases h1
    split at hne
    · rename_i k hk
      have hf : ∀ w, (Builtin.firstCells es 0 y).run P w = .ok #[] w := fun w => by
        unfold srcLen at hk
        split at hk
        · cases h2; simp [Builtin.firstCells]
        · obtain ⟨b, rfl, hb⟩ := h2.str_inv
          simp [Builtin.firstCells]
        · cases h2 <;> simp [Builtin.firstCells, loadCells, loadCellsFrom]
        · cases hk
      refine ⟨_, _, _, w, E, List.mem_cons_self, ?_, SPost.pure H hn (.int .i64 0) (Drew.refl w)⟩
      simp [Builtin.copy_, h0, run_underlying ht, src_len h2 hk, run_tsize hz, hf, goInt]
    · exact absurd rfl hne
  · rename_i id off len es' cap xv
    obtain ⟨u, u', hu, h1, h2⟩ := hv.two_inv
    simp only [List.cons.injEq, and_true] at hu
    obtain ⟨rfl, rfl⟩ := hu
    split at hne
    · rename_i k cs lo closed hk hgo
      simp only [hk, hgo] at hne ⊢
      split at hne
      · rename_i l hl
        split at hne
        · rename_i hc
          rw [if_pos hc]
          simp only [Bool.and_eq_true] at hc
          obtain ⟨⟨⟨hc1, hc2⟩, hone⟩, hc4⟩ := hc
          have he := Nat.eq_of_beq_eq_true hc1
          subst he
          have hll := Nat.eq_of_beq_eq_true hc2
          have hlo2 := Nat.le_of_ble_eq_true hc4
          obtain ⟨us, hrel, hf⟩ := src_cells (P := P) H h2 hk (n := Nat.min k len) (Nat.min_le_left _ _) hl
          have hul := hrel.length
          obtain ⟨b, base, size, c0, elem, frz, hE, hBb, hblt, hbk, hsz, hlo, hcl, hcs, hfz⟩ := H.cells hgo
          have fin : ∀ (a : Addr) (c : Nat) w', (storeCells a us).run P w = .ok () w' → Wrote w b (.cells (setMany c0 (base + off) us) elem frz) w' →
              Does P σ B E g w nid [(.int .i64 (.ofNat (Nat.min k len)), [(id, some (.cells (putList cs off l) lo closed))])] (Builtin.copy_ ts ty #[.slice (some a) len c, y]) := fun a c w' hst hw => by
            refine ⟨_, _, goInt (Nat.min k len), w', E, List.mem_cons_self, ?_, SPost.put hσ H hn hgo hE hsz hlo hcl hcs hfz hrel hone (by omega) hw (.int _ _)⟩
            simp [Builtin.copy_, h0, run_underlying ht, src_len h2 hk, run_tsize hz, hf w rfl, hst]
          have zero : ∀ (a : Addr) (c : Nat), len = 0 → Does P σ B E g w nid [(.int .i64 (.ofNat (Nat.min k len)), [(id, some (.cells (putList cs off l) lo closed))])] (Builtin.copy_ ts ty #[.slice (some a) len c, y]) := fun a c h => by
            have hm : Nat.min k len = 0 := by rw [h]; exact Nat.min_eq_right (Nat.zero_le _)
            have : us = [] := List.eq_nil_of_length_eq_zero (by rw [← hul, hll, hm, Nat.zero_mul])
            subst this
            exact fin a c w (by simp [storeCells]) ⟨rfl, hbk, fun _ _ => rfl, rfl, rfl, rfl⟩
          cases h1 with
          | slice _ _ _ _ _ b' base' size' c hE' hcap hle =>
            have e : (b', base', size') = (b, base, size) := Option.some.inj (hE'.symm.trans hE)
            simp only [Prod.mk.injEq] at e
            obtain ⟨rfl, rfl, rfl⟩ := e
            obtain ⟨w', hrun, hw⟩ := run_storeCells (P := P) b' (base' + off) elem frz us 0 c0 w hbk (by omega) (hrel.ones hσ hone) (fun j hj hj' => hfz j (by omega) (by omega))
            exact fin _ c w' hrun (by simpa using hw)
          | slice0 _ _ _ b' base' size' a hE' hs0 => exact zero a 0 rfl
          | slice00 _ _ _ _ _ _ a _ => exact zero a 0 rfl
        · exact absurd rfl hne
      · exact absurd rfl hne
    · exact absurd rfl hne
  · exact absurd rfl hne
theorem rep_one {z : List AV} (h : allOne z = true) : ∀ n, allOne (rep n z) = true
  | 0 => rfl
  | n + 1 => by rw [rep_succ, allOne_append, h, rep_one h n]; rfl
theorem does_clr (hσ : OneOpq σ) (H : HObj σ B E g w) (hn : E nid = none) {t e ty : TypeId} {ts : Array TypeId} {z : AV} (h0 : ts[0]? = some t) (ht : P.underlying t = some (.slice e)) (hz : tzero P e = some z) {vs : List AV} {x : Value} (hv : VRels σ E vs [x])
    (hne : sClr (cellsOf z) g vs ≠ []) : Does P σ B E g w nid (sClr (cellsOf z) g vs) (Builtin.clear_ ts ty #[x]) := by
  unfold sClr at hne ⊢
  split at hne
  · obtain ⟨u, hu, h1⟩ := hv.one_inv
    simp only [List.cons.injEq, and_true] at hu
    subst hu
    cases h1
    refine ⟨_, _, _, w, E, List.mem_cons_self, ?_, SPost.pure H hn (.tup _ #[] .nil) (Drew.refl w)⟩
    simp [Builtin.clear_, h0, run_underlying ht]
  · rename_i id off len es cap
    obtain ⟨u, hu, h1⟩ := hv.one_inv
    simp only [List.cons.injEq, and_true] at hu
    subst hu
    split at hne
    · rename_i cs lo closed hgo
      split at hne
      · rename_i hl
        rw [if_pos hl]
        have hl := Nat.eq_of_beq_eq_true hl
        subst hl
        have fin : ∀ (a : Addr) (c : Nat), Does P σ B E g w nid [(.tup [], [])] (Builtin.clear_ ts ty #[.slice (some a) 0 c]) := fun a c => by
          refine ⟨_, _, _, w, E, List.mem_cons_self, ?_, SPost.pure H hn (.tup _ #[] .nil) (Drew.refl w)⟩
          simp [Builtin.clear_, h0, run_underlying ht]
        cases h1 <;> exact fin _ _
      · rename_i hl
        rw [if_neg hl]
        have hl0 : len ≠ 0 := fun e => hl (by rw [e]; rfl)
        split at hne
        · rename_i hc
          rw [if_pos hc]
          simp only [Bool.and_eq_true] at hc
          obtain ⟨⟨hc1, hone⟩, hc3⟩ := hc
          have hzl := Nat.eq_of_beq_eq_true hc1
          have hle3 := Nat.le_of_ble_eq_true hc3
          obtain ⟨b, base, size, c0, elem, frz, hE, hBb, hblt, hbk, hsz, hlo, hcl, hcs, hfz⟩ := H.cells hgo
          obtain ⟨zv, hzrun, hzr⟩ := run_tzero (P := P) (σ := σ) (w := w) hz
          have hzr := hzr E
          have hcells := hzr.cells hσ hone
          have hzs := hcells.length
          simp only [Array.length_toList] at hzs
          have hrep := rep_rel hcells len (len * zv.cells.size) (by rw [hzs])
          have hones : allOne (rep len (cellsOf z)) = true := rep_one hone len
          have hul := hrep.length
          cases h1 with
          | slice _ _ _ _ _ b' base' size' c hE' hcap hle =>
            have e : (b', base', size') = (b, base, size) := Option.some.inj (hE'.symm.trans hE)
            simp only [Prod.mk.injEq] at e
            obtain ⟨rfl, rfl, rfl⟩ := e
            have hrl : (rep len (cellsOf z)).length = len * es := by rw [rep_length, hzl]
            obtain ⟨w', hrun, hw⟩ := run_storeCells (P := P) b' (base' + off) elem frz _ 0 c0 w hbk (by rw [← hul]; omega) (hrep.ones hσ hones) (fun j hj hj' => hfz j (by omega) (by rw [← hul] at hj'; omega))
            refine ⟨_, _, .tuple #[], w', E, List.mem_cons_self, ?_, SPost.put hσ H hn hgo hE hsz hlo hcl hcs hfz hrep hones (by omega) (by simpa using hw) (.tup _ _ .nil)⟩
            have hrun' : (storeCells ⟨b', base' + off, none⟩ (Builtin.zeroCells zv.cells len).toList).run P w = .ok () w' := hrun
            obtain ⟨q, rfl⟩ : ∃ q, len = q + 1 := ⟨len - 1, by omega⟩
            simp [Builtin.clear_, h0, run_underlying ht, hzrun, hrun']
          | slice0 => exact absurd rfl hl0
          | slice00 => exact absurd rfl hl0
        · exact absurd rfl hne
    · exact absurd rfl hne
  · exact absurd rfl hne
end Go.Hx
/- One operation, whichever. -/
namespace Go.Hx
open Go
variable {σ : Nat → Value} {B : Nat} {E E' : Emb} {g : Nat → Option AO} {w w' : World} {nid : Nat} {P : Program} {ot : MOp → List AV → Option AV} {gm : Nat → Nat → Option AV}

/-- What is asked of one operation of a region. -/
def Step1 (P : Program) (σ : Nat → Value) (B : Nat) (E : Emb) (g : Nat → Option AO) (w : World) (nid : Nat) (out : List (AV × Ws)) (s : Sem Next) : Prop :=
  ∃ r ws u w' E' nx, (r, ws) ∈ out ∧ s.run P w = .ok nx w' ∧ (nx = .value u ∨ (nx = .skip ∧ u = undef)) ∧ SPost σ B E g w nid r ws u w' E'

theorem Does.step {out : List (AV × Ws)} {s : Sem Value} (h : Does P σ B E g w nid out s) : Step1 P σ B E g w nid out (do Pure.pure (.value (← s))) := by
  obtain ⟨r, ws, u, w', E', hm, hr, hp⟩ := h
  exact ⟨r, ws, u, w', E', .value u, hm, by simp [hr], .inl rfl, hp⟩
theorem Does.stepU {out : List (AV × Ws)} {s : Sem Unit} (h : Does P σ B E g w nid out (do s; Pure.pure undef)) : Step1 P σ B E g w nid out (do s; Pure.pure .skip) := by
  obtain ⟨r, ws, u, w', E', hm, hr, hp⟩ := h
  simp only [Sem.run_bind] at hr
  cases hs : s.run P w with
  | ok a w1 =>
    rw [hs] at hr
    simp only [Result.andThen_ok, Sem.run_pure, Result.ok.injEq] at hr
    obtain ⟨rfl, rfl⟩ := hr
    exact ⟨r, ws, undef, w1, E', .skip, hm, by simp [hs], .inr ⟨rfl, rfl⟩, hp⟩
  | _ => rw [hs] at hr; cases hr
theorem Pur.step (H : HObj σ B E g w) (hn : E nid = none) {v : Option AV} {s : Sem Value} (h : Pur P σ E w v s) (hne : ones v ≠ []) : Step1 P σ B E g w nid (ones v) (do Pure.pure (.value (← s))) := (h.does H hn hne).step
theorem one_step (H : HObj σ B E g w) (hn : E nid = none) {r : AV} {u : Value} (h : VRel σ E r u) : Step1 P σ B E g w nid (one r) (Pure.pure (.value u)) :=
  ⟨r, [], u, w, E, .value u, List.mem_cons_self, rfl, .inl rfl, SPost.pure H hn h (Drew.refl w)⟩
theorem map_two {ρ : Operand → Value} {xs : Array Operand} {x y : Value} (h : xs.toList.map ρ = [x, y]) : xs.map ρ = #[x, y] := Array.ext' (by simpa using h)
theorem map_one {ρ : Operand → Value} {xs : Array Operand} {x : Value} (h : xs.toList.map ρ = [x]) : xs.map ρ = #[x] := Array.ext' (by simpa using h)
theorem bind_some' {α β} {o : Option α} {f : α → Option β} {b : β} (h : o.bind f = some b) : ∃ a, o = some a ∧ f a = some b := by
  cases o with
  | none => cases h
  | some a => exact ⟨a, rfl, h⟩

theorem sLen_one {k : Nat} {vs : List AV} (h : sLen k g vs ≠ none) : ∃ v, vs = [v] := by
  unfold sLen at h; split at h <;> first | exact ⟨_, rfl⟩ | exact absurd rfl h
theorem sCap_one {vs : List AV} (h : sCap vs ≠ none) : ∃ v, vs = [v] := by
  unfold sCap at h; split at h <;> first | exact ⟨_, rfl⟩ | exact absurd rfl h
theorem sClr_one {z vs : List AV} (h : sClr z g vs ≠ []) : ∃ v, vs = [v] := by
  unfold sClr at h; split at h <;> first | exact ⟨_, rfl⟩ | exact absurd rfl h
theorem sApp_two {es bytes : Nat} {zs : Option (List AV)} {vs : List AV} (h : sApp es bytes zs g nid vs ≠ []) : ∃ v v', vs = [v, v'] := by
  unfold sApp at h; split at h <;> first | exact ⟨_, _, rfl⟩ | exact absurd rfl h
theorem sCpy_two {es : Nat} {vs : List AV} (h : sCpy es g vs ≠ []) : ∃ v v', vs = [v, v'] := by
  unfold sCpy at h; split at h <;> first | exact ⟨_, _, rfl⟩ | exact absurd rfl h
theorem sMdel_two {kk : Nat} {vs : List AV} (h : sMdel kk g vs ≠ []) : ∃ v v', vs = [v, v'] := by
  unfold sMdel at h; split at h <;> first | exact ⟨_, _, rfl⟩ | exact absurd rfl h
theorem ones_ne {v : Option AV} (h : ones v ≠ []) : v ≠ none := fun e => by subst e; exact h rfl
theorem VRels.one_arr {v : AV} {us : Array Value} (h : VRels σ E [v] us.toList) : ∃ u, us = #[u] ∧ VRels σ E [v] [u] := by
  obtain ⟨u, hu, _⟩ := h.one_inv
  exact ⟨u, by rw [← Array.toArray_toList (xs := us), hu], hu ▸ h⟩
theorem VRels.two_arr {v v' : AV} {us : Array Value} (h : VRels σ E [v, v'] us.toList) : ∃ u u', us = #[u, u'] ∧ VRels σ E [v, v'] [u, u'] := by
  obtain ⟨u, u', hu, _, _⟩ := h.two_inv
  exact ⟨u, u', by rw [← Array.toArray_toList (xs := us), hu], hu ▸ h⟩
theorem small_len (ho : OtOk P σ ot) {k : Nat} {vs : List AV} : small gm ot (.len k) g nid vs = ones (sLen k g vs) := by
  show (match sLen k g vs with | some v => one v | none => ones (ot (.len k) vs)) = _
  rw [ho.len]
  cases sLen k g vs <;> rfl
theorem small_min (ho : OtOk P σ ot) {vs : List AV} : small gm ot .min g nid vs = ones (minmax false vs) := by
  show (match minmax false vs with | some v => one v | none => ones (ot .min vs)) = _
  rw [ho.min]
  cases minmax false vs <;> rfl
theorem small_max (ho : OtOk P σ ot) {vs : List AV} : small gm ot .max g nid vs = ones (minmax true vs) := by
  show (match minmax true vs with | some v => one v | none => ones (ot .max vs)) = _
  rw [ho.max]
  cases minmax true vs <;> rfl

/-- A built-in function. -/
theorem builtin_step (hσ : OneOpq σ) (ho : OtOk P σ ot) (H : HObj σ B E g w) (hn : E nid = none) (hB : B ≤ w.heap.size) {b : Builtin} {ts : Array TypeId} {ty : TypeId} {cs : Array Bool} {vs : List AV} {us : Array Value} (hv : VRels σ E vs us.toList)
    (hne : small gm ot (cBuiltin P b ts) g nid vs ≠ []) : Step1 P σ B E g w nid (small gm ot (cBuiltin P b ts) g nid vs) (builtin b ts ty cs us) := by
  generalize hc : cBuiltin P b ts = mop at hne ⊢
  have bad : MOp.bad = mop → False := fun h => by subst h; exact hne rfl
  have len : ∀ {k : Nat} {t : TypeId}, ts[0]? = some t → ((k = 0 ∧ P.underlying t = some .string) ∨ (k = 1 ∧ ∃ e, P.underlying t = some (.slice e)) ∨ (k = 2 ∧ ∃ a b, P.underlying t = some (.map a b))) → MOp.len k = mop →
      Step1 P σ B E g w nid (small gm ot mop g nid vs) (builtin .len ts ty cs us) := fun h0 ht h => by
    subst h
    rw [small_len ho] at hne ⊢
    obtain ⟨v, rfl⟩ := sLen_one (ones_ne hne)
    obtain ⟨u, rfl, hv'⟩ := hv.one_arr
    exact (pur_len H h0 ht hv').step H hn hne
  cases b <;> simp only [cBuiltin] at hc <;> try exact (bad hc).elim
  case append =>
    split at hc
    · rename_i e heq
      obtain ⟨t, h0, ht⟩ := bind_some' heq
      split at hc
      · rename_i i z hi hz
        split at hc
        · exact (bad hc).elim
        · rename_i hcond
          simp only [Bool.not_eq_true', Bool.not_eq_false, Bool.and_eq_true, decide_eq_true_eq] at hcond
          have fin : ∀ zs, SrcKind P e ts zs → MOp.app i.size i.bytes zs = mop → Step1 P σ B E g w nid (small gm ot mop g nid vs) (builtin .append ts ty cs us) := fun zs hk h => by
            subst h
            obtain ⟨v, v', rfl⟩ := sApp_two hne
            obtain ⟨u, u', rfl, hv'⟩ := hv.two_arr
            exact (does_app hσ H hn hB h0 ht hi hz hcond.1 hcond.2 hk hv' hne).step
          split at hc
          · rename_i xt hxt
            split at hc
            · rename_i k hk
              exact fin (some (cellsOf z)) ⟨⟨k, by rw [hxt]; exact hk⟩, by rw [hxt]; rfl, z, hz, rfl⟩ hc
            · rename_i d hnd hd
              exact fin none (.inr ⟨xt, d, hxt, hd, fun k e => hnd k e⟩) hc
            · exact (bad hc).elim
          · rename_i hxt
            exact fin none (.inl hxt) hc
      · exact (bad hc).elim
    · exact (bad hc).elim
  case cap =>
    split at hc
    · rename_i e heq
      obtain ⟨t, h0, ht⟩ := bind_some' heq
      subst hc
      obtain ⟨v, rfl⟩ := sCap_one (ones_ne hne)
      obtain ⟨u, rfl, hv'⟩ := hv.one_arr
      exact (pur_cap h0 ht hv').step H hn hne
    · exact (bad hc).elim
  case clear =>
    split at hc
    · rename_i e heq
      obtain ⟨t, h0, ht⟩ := bind_some' heq
      split at hc
      · rename_i z hz
        subst hc
        obtain ⟨v, rfl⟩ := sClr_one hne
        obtain ⟨u, rfl, hv'⟩ := hv.one_arr
        exact (does_clr hσ H hn h0 ht hz hv' hne).step
      · exact (bad hc).elim
    · exact (bad hc).elim
  case copy =>
    split at hc
    · rename_i e heq
      obtain ⟨t, h0, ht⟩ := bind_some' heq
      split at hc
      · rename_i n hz
        subst hc
        obtain ⟨v, v', rfl⟩ := sCpy_two hne
        obtain ⟨u, u', rfl, hv'⟩ := hv.two_arr
        exact (does_cpy hσ H hn h0 ht hz hv' hne).step
      · exact (bad hc).elim
    · exact (bad hc).elim
  case delete =>
    split at hc
    · rename_i k e heq
      obtain ⟨t, h0, ht⟩ := bind_some' heq
      split at hc
      · rename_i kk hk
        subst hc
        obtain ⟨v, v', rfl⟩ := sMdel_two hne
        obtain ⟨u, u', rfl, hv'⟩ := hv.two_arr
        exact (does_mdel H hn h0 ht hk hv' hne).step
      · exact (bad hc).elim
    · exact (bad hc).elim
  case len =>
    split at hc
    · rename_i heq
      obtain ⟨t, h0, ht⟩ := bind_some' heq
      exact len h0 (.inl ⟨rfl, ht⟩) hc
    · rename_i e heq
      obtain ⟨t, h0, ht⟩ := bind_some' heq
      exact len h0 (.inr (.inl ⟨rfl, e, ht⟩)) hc
    · rename_i k e heq
      obtain ⟨t, h0, ht⟩ := bind_some' heq
      exact len h0 (.inr (.inr ⟨rfl, k, e, ht⟩)) hc
    · exact (bad hc).elim
  case max =>
    subst hc
    rw [small_max ho] at hne ⊢
    have h := pur_minmax (P := P) (w := w) (mx := true) (ts := ts) (ty := ty) hv
    simp only [if_true, Array.toArray_toList] at h
    exact h.step H hn hne
  case min =>
    subst hc
    rw [small_min ho] at hne ⊢
    have h := pur_minmax (P := P) (w := w) (mx := false) (ts := ts) (ty := ty) hv
    simp only [Bool.false_eq_true, if_false, Array.toArray_toList] at h
    exact h.step H hn hne
end Go.Hx
