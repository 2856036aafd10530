/- One operation: iterators; len, cap, min, max. -/
import Derived.Test.YtdbdebcakemmbaaGreatDoorHxSmallG
namespace Go.Hx
open Go
variable {σ : Nat → Value} {B : Nat} {E E' : Emb} {g : Nat → Option AO} {w w' : World} {nid : Nat} {P : Program} {ot : MOp → List AV → Option AV} {gm : Nat → Nat → Option AV}

theorem does_rng (H : HObj σ B E g w) (hn : E nid = none) (hB : B ≤ w.heap.size) {t : TypeId} {str : Bool} {vs : List AV} {x : Value} (ht : if str then P.underlying t = some .string else ∃ k e, P.underlying t = some (.map k e)) (hv : VRels σ E vs [x])
    (hne : sRng str g nid vs ≠ []) : Does P σ B E g w nid (sRng str g nid vs) (Instr.range t x) := by
  unfold sRng at hne ⊢
  split at hne
  · rename_i l
    obtain ⟨u, hu, h1⟩ := hv.one_inv
    simp only [List.cons.injEq, and_true] at hu; subst hu
    obtain ⟨b, rfl, hb⟩ := h1.str_inv
    split at hne
    · rename_i hs
      rw [if_pos hs] at ht ⊢
      refine ⟨_, _, _, w.alloc (.stringIter b 0), _, List.mem_cons_self, ?_, SPost.alloc (w' := w.alloc (.stringIter b 0)) (o := .siter l 0) (ob := .stringIter b 0) (base := 0) (size := 0) H hn hB rfl rfl rfl rfl (.ptr _ _ _ _ _ Emb.put_same) ⟨b, rfl, hb, rfl⟩⟩
      simp [Instr.range, run_underlying ht]
    · exact absurd rfl hne
  · obtain ⟨u, hu, h1⟩ := hv.one_inv
    simp only [List.cons.injEq, and_true] at hu; subst hu
    cases h1
    split at hne
    · exact absurd rfl hne
    · rename_i hs
      rw [if_neg hs] at ht ⊢
      obtain ⟨k, e, ht⟩ := ht
      refine ⟨_, _, _, w.alloc (.mapIter none 0 #[] 0), _, List.mem_cons_self, ?_, SPost.alloc (w' := w.alloc (.mapIter none 0 #[] 0)) (o := .miter none 0 [] 0) (ob := .mapIter none 0 #[] 0) (base := 0) (size := 0) H hn hB rfl rfl rfl rfl (.ptr _ _ _ _ _ Emb.put_same) ⟨none, rfl, rfl, rfl⟩⟩
      simp [Instr.range, run_underlying ht]
  · rename_i id
    obtain ⟨u, hu, h1⟩ := hv.one_inv
    simp only [List.cons.injEq, and_true] at hu; subst hu
    obtain ⟨b, base, size, rfl, hE⟩ := h1.map_inv
    split at hne
    · exact absurd rfl hne
    · rename_i hs
      rw [if_neg hs] at ht ⊢
      obtain ⟨k, e, ht⟩ := ht
      split at hne
      · rename_i es clock hgo
        obtain ⟨b', base', size', ms, hx, hm, hrel⟩ := H.map_ hgo
        have e : (b', base', size') = (b, base, size) := Option.some.inj (hx.symm.trans hE)
        simp only [Prod.mk.injEq] at e
        obtain ⟨rfl, rfl, rfl⟩ := e
        have hgetm := run_getObj (P := P) hm (by intros; simp)
        have hne' : id ≠ nid := fun e => by rw [e, hn] at hE; cases hE
        refine ⟨_, _, _, w.alloc (.mapIter (some b') clock #[] clock), _, List.mem_cons_self, ?_, SPost.alloc (w' := w.alloc (.mapIter (some b') clock #[] clock)) (o := .miter (some id) clock [] clock) (ob := .mapIter (some b') clock #[] clock) (base := 0) (size := 0) H hn hB rfl rfl rfl rfl (.ptr _ _ _ _ _ Emb.put_same)
          ⟨some b', rfl, rfl, (b', base', size'), by rw [Emb.put_other hne']; exact hE, rfl⟩⟩
        simp [Instr.range, run_underlying ht, hgetm]
      · exact absurd rfl hne
  · exact absurd rfl hne

theorem memN_eq (n : Nat) : ∀ l : List Nat, memN n l = l.contains n
  | [] => rfl
  | m :: l => by
    have : Nat.beq n m = (n == m) := by rw [Bool.eq_iff_iff, Nat.beq_eq, beq_iff_eq]
    simp only [memN, memN_eq n l, this, List.contains_cons]
theorem HObj.miter (H : HObj σ B E g w) {it m since stepped : Nat} {seen : List Nat} (h : g it = some (.miter (some m) since seen stepped)) :
    ∃ b size y, E it = some (b, 0, size) ∧ w.heap[b]? = some (.mapIter (some y) since seen.toArray stepped) ∧ ∃ base size', E m = some (y, base, size') := by
  obtain ⟨⟨b, base, size⟩, hx, _, _, m', h1, h0, z, hz, e⟩ := H.obj it _ h
  subst e
  simp only at h0; subst h0
  exact ⟨b, size, z.1, hx, h1, z.2.1, z.2.2, hz⟩

/-- What the entries of a map are for an iterator. -/
theorem left_rel (seen : List Nat) : ∀ {es : List (AV × AV × Nat)} {ms : List MapEntry}, EntriesRel σ E es ms → EntriesRel σ E (leftOf seen es) (ms.filter fun e => !seen.contains e.born)
  | [], [], _ => trivial
  | [], _ :: _, hr => hr.elim
  | _ :: _, [], hr => hr.elim
  | (k, v, b) :: es, m :: ms, ⟨h1, h2, h3, h4⟩ => by
    have ih := left_rel seen h4
    simp only [leftOf, memN_eq, List.filter_cons]
    subst h3
    cases hc : seen.contains m.born
    · simp only [Bool.not_false, if_true, Bool.false_eq_true, if_false]; exact ⟨h1, h2, rfl, ih⟩
    · simp only [Bool.not_true, Bool.false_eq_true, if_false, if_true]; exact ih
theorem anyLt_rel (since : Nat) : ∀ {es : List (AV × AV × Nat)} {ms : List MapEntry}, EntriesRel σ E es ms → anyLt since es = ms.any fun e => e.born < since
  | [], [], _ => rfl
  | [], _ :: _, hr => hr.elim
  | _ :: _, [], hr => hr.elim
  | (k, v, b) :: es, m :: ms, ⟨h1, h2, h3, h4⟩ => by
    have ih := anyLt_rel since h4
    subst h3
    simp only [anyLt, List.any_cons, ih]
    congr 1
    rw [Bool.eq_iff_iff, Nat.blt_eq, decide_eq_true_eq]
theorem allGe_rel (last : Nat) : ∀ {es : List (AV × AV × Nat)} {ms : List MapEntry}, EntriesRel σ E es ms → allGe last es = ms.all fun e => e.born ≥ last
  | [], [], _ => rfl
  | [], _ :: _, hr => hr.elim
  | _ :: _, [], hr => hr.elim
  | (k, v, b) :: es, m :: ms, ⟨h1, h2, h3, h4⟩ => by
    have ih := allGe_rel last h4
    subst h3
    simp only [allGe, List.all_cons, ih]
    congr 1
    rw [Bool.eq_iff_iff, Nat.ble_eq, decide_eq_true_eq]
theorem mem_rel : ∀ {es : List (AV × AV × Nat)} {ms : List MapEntry}, EntriesRel σ E es ms → ∀ m ∈ ms, ∃ e ∈ es, VRel σ E e.1 m.key ∧ VRel σ E e.2.1 m.val ∧ m.born = e.2.2
  | [], [], _ => fun m hm => by cases hm
  | [], _ :: _, hr => hr.elim
  | _ :: _, [], hr => hr.elim
  | (k, v, b) :: es, m :: ms, ⟨h1, h2, h3, h4⟩ => fun m' hm => by
    cases hm with
    | head => exact ⟨(k, v, b), List.mem_cons_self, h1, h2, h3⟩
    | tail _ hm => obtain ⟨e, he, a⟩ := mem_rel h4 m' hm; exact ⟨e, List.mem_cons_of_mem _ he, a⟩
theorem steps_mem (it m since : Nat) (seen : List Nat) (clock : Nat) : ∀ (es : List (AV × AV × Nat)) (e : AV × AV × Nat), e ∈ es → outIt e it m since seen clock ∈ stepsOf it m since seen clock es
  | e' :: es, e, h => by
    cases h with
    | head => exact List.mem_cons_self
    | tail _ h => exact List.mem_cons_of_mem _ (steps_mem it m since seen clock es e h)

/-- The model's choice of the next entry. -/
theorem run_next_map {b y since stepped : Nat} {seen : List Nat} {ms : Array MapEntry} {clock : Nat} {ty : TypeId} (hit : w.heap[b]? = some (.mapIter (some y) since seen.toArray stepped)) (hm : w.heap[y]? = some (.map ms clock))
    (hok : ¬ (!seen.isEmpty && !ms.isEmpty && ms.all (·.born ≥ stepped)) = true) :
    (((ms.toList.filter fun e => !seen.contains e.born).any (fun e => e.born < since)) = false ∧ ∃ w', (Instr.next (.pointer (some ⟨b, 0, none⟩)) false ty).run P w = .ok (.tuple #[.bool false]) w' ∧ Drew w w') ∨
    ∃ e ∈ ms.toList.filter (fun e => !seen.contains e.born), ∃ w', (Instr.next (.pointer (some ⟨b, 0, none⟩)) false ty).run P w = .ok (.tuple #[.bool true, e.key, e.val]) w' ∧ Wrote w b (.mapIter (some y) since (seen ++ [e.born]).toArray clock) w' := by
  have h1 := run_getObj (P := P) hit (by intros; simp)
  have h2 := run_getObj (P := P) hm (by intros; simp)
  have hok' : ¬ ((!(seen.toArray).isEmpty && !ms.isEmpty && ms.all (·.born ≥ stepped)) = true) := by simpa using hok
  obtain ⟨left, hleft⟩ : ∃ left, left = ms.filter fun e => !seen.toArray.contains e.born := ⟨_, rfl⟩
  obtain ⟨old, hold⟩ : ∃ old, old = left.filter (·.born < since) := ⟨_, rfl⟩
  obtain ⟨new, hnew⟩ : ∃ new, new = left.filter (·.born ≥ since) := ⟨_, rfl⟩
  obtain ⟨cs, hcs⟩ : ∃ cs : Array (Option MapEntry), cs = (if old.isEmpty then #[none] else #[]) ++ (old ++ new).map some := ⟨_, rfl⟩
  have hpos : 0 < cs.size := by
    rw [hcs]
    by_cases ho : old.isEmpty
    · simp [ho]; omega
    · have : 0 < old.size := by
        rcases Nat.eq_zero_or_pos old.size with h | h
        · exact absurd (by simp [Array.isEmpty, h]) ho
        · exact h
      simp [ho]; omega
  obtain ⟨i, w1, hch, hi, hd⟩ : ∃ i w1, (choose (.mapNext cs.size)).run P w = .ok i w1 ∧ i < cs.size ∧ Drew w w1 := by
    rw [run_choose]
    split
    · exact ⟨0, w, rfl, hpos, Drew.refl w⟩
    · exact ⟨_, _, rfl, Nat.mod_lt _ hpos, Drew.drew w⟩
  have hrun : (Instr.next (.pointer (some ⟨b, 0, none⟩)) false ty).run P w = (match cs[i]? with
      | some (some e) => (do setObj b (.mapIter (some y) since (seen.toArray.push e.born) clock); pure (.tuple #[.bool true, e.key, e.val]) : Sem Value)
      | some none => pure (.tuple #[.bool false])
      | none => stuck "Next: no such candidate").run P w1 := by
    simp only [Instr.next, Sem.run_bind, h1, Result.andThen_ok, h2, if_neg hok', ← hleft, ← hold, ← hnew, ← hcs, hch]
    rfl
  have hmemleft : ∀ e, e ∈ (old ++ new).toList → e ∈ ms.toList.filter (fun e => !seen.contains e.born) := by
    intro e he
    simp only [hold, hnew, hleft, Array.toList_append, Array.toList_filter, List.mem_append, List.mem_filter] at he
    have hcont : (seen.toArray.contains e.born) = seen.contains e.born := by simp
    rcases he with ⟨⟨h, h'⟩, _⟩ | ⟨⟨h, h'⟩, _⟩ <;> exact List.mem_filter.2 ⟨h, by rw [← hcont]; exact h'⟩
  cases hc : cs[i]? with
  | none => rw [Array.getElem?_eq_none_iff] at hc; omega
  | some c =>
    rw [hc] at hrun
    have hmem : c ∈ cs.toList := by
      rw [← Array.getElem?_toList] at hc
      exact List.mem_of_getElem? hc
    rw [hcs] at hmem
    simp only [Array.toList_append, List.mem_append] at hmem
    cases c with
    | none =>
      left
      have hoe : old.isEmpty = true := by
        rcases hmem with h | h
        · by_cases ho : old.isEmpty
          · exact ho
          · simp [ho] at h
        · simp at h
      refine ⟨?_, w1, hrun, hd⟩
      have : old.toList = [] := by
        have := Array.isEmpty_iff.1 hoe
        rw [this]
      rw [hold, hleft] at this
      simp only [Array.toList_filter, List.filter_eq_nil_iff] at this
      rw [Bool.eq_false_iff]
      intro hany
      obtain ⟨e, he, hlt⟩ := List.any_eq_true.1 hany
      have hcont : (seen.toArray.contains e.born) = seen.contains e.born := by simp
      obtain ⟨a1, a2⟩ := List.mem_filter.1 he
      exact this e (List.mem_filter.2 ⟨a1, by rw [hcont]; exact a2⟩) hlt
    | some e =>
      right
      have he : e ∈ (old ++ new).toList := by
        rcases hmem with h | h
        · by_cases ho : old.isEmpty <;> simp [ho] at h
        · simpa using h
      obtain ⟨w2, hs, hw⟩ := run_setObj (P := P) (w := w1) (o' := .mapIter (some y) since (seen.toArray.push e.born) clock) (b := b) (o := .mapIter (some y) since seen.toArray stepped) (by rw [hd.heap]; exact hit) (by intros; simp)
      refine ⟨e, hmemleft e he, w2, ?_, ⟨by rw [hw.size, hd.heap], ?_, fun k hk => by rw [hw.other k hk, hd.heap], hw.os.trans hd.os, hw.tape.trans hd.tape, hw.out.trans hd.out⟩⟩
      · rw [hrun]
        simp only [Sem.run_bind, hs, Result.andThen_ok, Sem.run_pure]
      · rw [hw.at_]; simp
end Go.Hx
/- One operation: the next one of an iterator; len, cap, min, max. -/
namespace Go.Hx
open Go
variable {σ : Nat → Value} {B : Nat} {E E' : Emb} {g : Nat → Option AO} {w w' : World} {nid : Nat} {P : Program} {ot : MOp → List AV → Option AV} {gm : Nat → Nat → Option AV}

theorem HObj.siter (H : HObj σ B E g w) {it pos : Nat} {s : List Nat} (h : g it = some (.siter s pos)) :
    ∃ b size str, E it = some (b, 0, size) ∧ w.heap[b]? = some (.stringIter str pos) ∧ str.data.toList.map UInt8.toNat = s := by
  obtain ⟨⟨b, base, size⟩, hx, _, _, str, h1, h2, h0⟩ := H.obj it _ h
  simp only at h0; subst h0
  exact ⟨b, size, str, hx, h1, h2⟩
theorem HObj.miter0 (H : HObj σ B E g w) {it since stepped : Nat} {seen : List Nat} (h : g it = some (.miter none since seen stepped)) :
    ∃ b size, E it = some (b, 0, size) ∧ w.heap[b]? = some (.mapIter none since seen.toArray stepped) := by
  obtain ⟨⟨b, base, size⟩, hx, _, _, m', h1, h0, e⟩ := H.obj it _ h
  subst e
  simp only at h0; subst h0
  exact ⟨b, size, hx, h1⟩
theorem rebuild (b : ByteArray) : (⟨((b.data.toList.map UInt8.toNat).map UInt8.ofNat).toArray⟩ : ByteArray) = b := by
  have : (b.data.toList.map UInt8.toNat).map UInt8.ofNat = b.data.toList := by
    rw [List.map_map]
    conv => rhs; rw [← List.map_id b.data.toList]
    refine List.map_congr_left fun x _ => ?_
    simp
  rw [this]
theorem decode_ascii (b : ByteArray) (pos c : Nat) (h : (b.data.toList.map UInt8.toNat)[pos]? = some c) (hc : c < 128) : Utf8.decode b pos = (c, 1) := by
  have hg : (b.get! (pos + 0)).toNat = c := by
    simp only [List.getElem?_map, Array.getElem?_toList, Option.map_eq_some_iff] at h
    obtain ⟨x, hx, rfl⟩ := h
    have hlt : pos < b.data.size := by
      rcases Nat.lt_or_ge pos b.data.size with h' | h'
      · exact h'
      · rw [Array.getElem?_eq_none h'] at hx; cases hx
    rw [Array.getElem?_eq_getElem hlt] at hx
    cases hx
    cases b with
    | mk d => simp only [Nat.add_zero, ByteArray.get!]; rw [getElem!_pos d pos hlt]
  have hlt : (b.get! (pos + 0)).toNat < 128 := hg ▸ hc
  unfold Utf8.decode
  dsimp only
  rw [if_pos hlt, hg]

theorem does_nxt (H : HObj σ B E g w) (hn : E nid = none) {str : Bool} {ty : TypeId} {vs : List AV} {x : Value} (hv : VRels σ E vs [x]) (hne : sNxt str g vs ≠ []) : Does P σ B E g w nid (sNxt str g vs) (Instr.next x str ty) := by
  unfold sNxt at hne ⊢
  split at hne
  · rename_i it
    obtain ⟨u, hu, h1⟩ := hv.one_inv
    simp only [List.cons.injEq, and_true] at hu; subst hu
    obtain ⟨b, base, size, rfl, hE⟩ := h1.ptr_inv
    split at hne
    · rename_i s pos hgo
      obtain ⟨b', size', bs, hx, hb, hs⟩ := H.siter hgo
      have e : (b', 0, size') = (b, base, size) := Option.some.inj (hx.symm.trans hE)
      simp only [Prod.mk.injEq] at e
      obtain ⟨rfl, rfl, rfl⟩ := e
      have hget := run_getObj (P := P) hb (by intros; simp)
      split at hne
      · exact absurd rfl hne
      · rename_i hstr
        have hstr' : str = true := by simpa using hstr
        subst hstr'
        simp only [Bool.not_true, Bool.false_eq_true, if_false]
        split at hne
        · rename_i hd
          have hge : ¬ pos < bs.size := by
            have : s.length = bs.size := by rw [← hs]; simp
            rw [List.drop_eq_nil_iff] at hd
            omega
          refine ⟨_, _, .tuple #[.bool false], w, E, List.mem_cons_self, ?_, SPost.pure H hn (.tup _ _ (.cons _ _ _ _ (.bool false) .nil)) (Drew.refl w)⟩
          simp [Instr.next, hget, hge]
        · rename_i c rest hd
          have hlt : pos < bs.size := by
            have hl : s.length = bs.size := by rw [← hs]; simp
            have : ¬ s.length ≤ pos := fun h => by rw [List.drop_eq_nil_of_le h] at hd; cases hd
            omega
          have hcp : s[pos]? = some c := by
            have := congrArg (·[0]?) hd
            simpa using this
          have fin : ∀ (n wd : Nat), Utf8.decode bs pos = (n, wd) → Does P σ B E g w nid [(.tup [.bool true, .int .i64 (.ofNat pos), .int .i32 n], [(it, some (.siter s (pos + wd)))])] (Instr.next (.pointer (some ⟨b', 0 + 0, none⟩)) true ty) := by
            intro n wd hdec
            obtain ⟨w', hrun, hw⟩ := run_setObj (P := P) (o' := .stringIter bs (pos + wd)) hb (by intros; simp)
            refine ⟨_, _, .tuple #[.bool true, goInt pos, .int .i32 n], w', E, List.mem_cons_self, ?_, SPost.write H hn hgo hx hw.size hw.other hw.os hw.tape hw.out (by show ORel σ E _ _ (w'.heap[b']?); rw [hw.at_]; exact ⟨bs, rfl, hs, rfl⟩)
              (.tup _ _ (.cons _ _ _ _ (.bool true) (.cons _ _ _ _ (.int _ _) (.cons _ _ _ _ (.int _ _) .nil))))⟩
            simp [Instr.next, hget, hlt, hdec, hrun]
          split at hne
          · rename_i hc
            simp only [if_pos hc]
            exact fin c 1 (decode_ascii bs pos c (by rw [hs]; exact hcp) (by simpa using hc))
          · rename_i hc
            simp only [if_neg hc]
            rw [← hs, rebuild, hs]
            exact fin _ _ rfl
    · rename_i since seen last hgo
      obtain ⟨b', size', hx, hb⟩ := H.miter0 hgo
      have e : (b', 0, size') = (b, base, size) := Option.some.inj (hx.symm.trans hE)
      simp only [Prod.mk.injEq] at e
      obtain ⟨rfl, rfl, rfl⟩ := e
      have hget := run_getObj (P := P) hb (by intros; simp)
      split at hne
      · exact absurd rfl hne
      · rename_i hstr
        have hstr' : str = false := by simpa using hstr
        subst hstr'
        refine ⟨_, _, .tuple #[.bool false], w, E, List.mem_cons_self, ?_, SPost.pure H hn (.tup _ _ (.cons _ _ _ _ (.bool false) .nil)) (Drew.refl w)⟩
        simp [Instr.next, hget]
    · rename_i m since seen last hgo
      obtain ⟨b', size', y, hx, hb, base', size'', hm⟩ := H.miter hgo
      have e : (b', 0, size') = (b, base, size) := Option.some.inj (hx.symm.trans hE)
      simp only [Prod.mk.injEq] at e
      obtain ⟨rfl, rfl, rfl⟩ := e
      split at hne
      · exact absurd rfl hne
      · rename_i hstr
        have hstr' : str = false := by simpa using hstr
        subst hstr'
        simp only [Bool.false_eq_true, if_false]
        split at hne
        · rename_i es clock hgm
          obtain ⟨bm, basem, sizem, ms, hxm, hmm, hrel⟩ := H.map_ hgm
          have e : (bm, basem, sizem) = (y, base', size'') := Option.some.inj (hxm.symm.trans hm)
          simp only [Prod.mk.injEq] at e
          obtain ⟨rfl, rfl, rfl⟩ := e
          split at hne
          · exact absurd rfl hne
          · rename_i hok
            simp only [if_neg hok]
            have hemp : es.isEmpty = ms.isEmpty := by
              cases hes : es with
              | nil =>
                rw [hes] at hrel
                cases hl : ms.toList with
                | nil => have : ms = #[] := by simpa using hl
                         rw [this]; rfl
                | cons _ _ => rw [hl] at hrel; exact hrel.elim
              | cons a as =>
                rw [hes] at hrel
                cases hl : ms.toList with
                | nil => rw [hl] at hrel; exact hrel.elim
                | cons m' ms' =>
                  have : ms.isEmpty = false := by
                    rw [Bool.eq_false_iff]
                    intro h
                    rw [Array.isEmpty_iff.1 h] at hl
                    cases hl
                  rw [this]; rfl
            have hok' : ¬ ((!seen.isEmpty && !ms.isEmpty && ms.all (·.born ≥ last)) = true) := by
              rw [← hemp, ← Array.all_toList, ← allGe_rel last hrel]; exact hok
            rcases run_next_map (P := P) (ty := ty) hb hmm hok' with ⟨hany, w', hrun, hd⟩ | ⟨e, he, w', hrun, hw⟩
            · have hany' : anyLt since (leftOf seen es) = false := by rw [anyLt_rel since (left_rel seen hrel)]; exact hany
              rw [hany']
              exact ⟨.tup [.bool false], [], .tuple #[.bool false], w', E, by simp, hrun, SPost.pure H hn (.tup _ _ (.cons _ _ _ _ (.bool false) .nil)) hd⟩
            · obtain ⟨e', he', r1, r2, r3⟩ := mem_rel (left_rel seen hrel) e he
              refine ⟨(outIt e' it m since seen clock).1, (outIt e' it m since seen clock).2, _, w', E, ?_, hrun, SPost.write H hn hgo hx hw.size hw.other hw.os hw.tape hw.out ?_ (.tup _ _ (.cons _ _ _ _ (.bool true) (.cons _ _ _ _ r1 (.cons _ _ _ _ r2 .nil))))⟩
              · exact List.mem_append_right _ (steps_mem it m since seen clock _ e' he')
              · show ORel σ E _ _ (w'.heap[b']?)
                rw [hw.at_]
                exact ⟨some bm, by rw [r3], rfl, (bm, basem, sizem), hxm, rfl⟩
        · exact absurd rfl hne
    · exact absurd rfl hne
  · exact absurd rfl hne

theorem lastN_back : ∀ l : List Nat, lastN l = l.getLast?
  | [] => rfl
  | [a] => rfl
  | a :: b :: l => by
    have : lastN (a :: b :: l) = lastN (b :: l) := rfl
    rw [this, lastN_back (b :: l), List.getLast?_cons_cons]
theorem byBorn_rel (n : Nat) : ∀ {es : List (AV × AV × Nat)} {ms : List MapEntry} {kv : AV × AV}, EntriesRel σ E es ms → byBorn n es = some kv → ∃ m, ms.find? (·.born == n) = some m ∧ VRel σ E kv.1 m.key ∧ VRel σ E kv.2 m.val
  | [], _, _, _, h => by cases h
  | _ :: _, [], _, hr, _ => hr.elim
  | (k, v, b) :: es, m :: ms, kv, ⟨h1, h2, h3, h4⟩, h => by
    simp only [byBorn] at h
    subst h3
    split at h
    · rename_i hb
      cases h
      have : (m.born == n) = true := by rw [beq_iff_eq]; exact Nat.eq_of_beq_eq_true hb
      exact ⟨m, by simp [this], h1, h2⟩
    · rename_i hb
      obtain ⟨m', a, c⟩ := byBorn_rel n h4 h
      have : (m.born == n) = false := by
        rw [beq_eq_false_iff_ne]
        intro e
        exact hb (by rw [e]; exact Nat.beq_refl n)
      exact ⟨m', by simp [this, a], c⟩
theorem pur_ent (H : HObj σ B E g w) {vs : List AV} {x : Value} (hv : VRels σ E vs [x]) : Pur P σ E w (sEnt g vs) (Instr.entry x) := by
  intro r hr
  unfold sEnt at hr
  split at hr
  · rename_i it
    obtain ⟨u, hu, h1⟩ := hv.one_inv
    simp only [List.cons.injEq, and_true] at hu; subst hu
    obtain ⟨b, base, size, rfl, hE⟩ := h1.ptr_inv
    split at hr
    · rename_i m since seen stepped hgo
      obtain ⟨b', size', y, hx, hb, base', size'', hm⟩ := H.miter hgo
      have e : (b', 0, size') = (b, base, size) := Option.some.inj (hx.symm.trans hE)
      simp only [Prod.mk.injEq] at e
      obtain ⟨rfl, rfl, rfl⟩ := e
      split at hr
      · rename_i stamp es clock hl hgm
        obtain ⟨bm, basem, sizem, ms, hxm, hmm, hrel⟩ := H.map_ hgm
        have e : (bm, basem, sizem) = (y, base', size'') := Option.some.inj (hxm.symm.trans hm)
        simp only [Prod.mk.injEq] at e
        obtain ⟨rfl, rfl, rfl⟩ := e
        split at hr
        · rename_i hc
          have hck := Nat.eq_of_beq_eq_true hc
          subst hck
          cases hbb : byBorn stamp es with
          | none => rw [hbb] at hr; cases hr
          | some kv =>
            rw [hbb] at hr
            cases hr
            obtain ⟨me, hf, r1, r2⟩ := byBorn_rel stamp hrel hbb
            have hg1 := run_getObj (P := P) hb (by intros; simp)
            have hg2 := run_getObj (P := P) hmm (by intros; simp)
            have hback : seen.toArray.back? = some stamp := by
              rw [lastN_back, List.getLast?_eq_getElem?] at hl
              simpa [Array.back?] using hl
            have hfind : ms.find? (·.born == stamp) = some me := by rw [← Array.find?_toList]; exact hf
            refine ⟨.tuple #[me.key, me.val], ?_, .tup _ _ (.cons _ _ _ _ r1 (.cons _ _ _ _ r2 .nil))⟩
            simp [Instr.entry, hg1, hback, hg2, hfind]
        · cases hr
      · cases hr
    · cases hr
  · cases hr

theorem pur_len (H : HObj σ B E g w) {k : Nat} {t ty : TypeId} {ts : Array TypeId} (h0 : ts[0]? = some t) (ht : (k = 0 ∧ P.underlying t = some .string) ∨ (k = 1 ∧ ∃ e, P.underlying t = some (.slice e)) ∨ (k = 2 ∧ ∃ a b, P.underlying t = some (.map a b))) {vs : List AV} {x : Value}
    (hv : VRels σ E vs [x]) : Pur P σ E w (sLen k g vs) (Builtin.len_ ts ty #[x]) := by
  intro r hr
  have one : ∀ {v : AV}, vs = [v] → VRel σ E v x := fun e => by subst e; obtain ⟨u, hu, h1⟩ := hv.one_inv; simp only [List.cons.injEq, and_true] at hu; subst hu; exact h1
  unfold sLen at hr
  split at hr <;> first | cases hr | skip
  all_goals
    have h1 := one rfl
    split at hr <;> first | cases hr | skip
  · rename_i hk
    have hk := Nat.eq_of_beq_eq_true hk; subst hk
    obtain ⟨b, rfl, hb⟩ := h1.str_inv
    rcases ht with ⟨_, ht⟩ | ⟨h, _⟩ | ⟨h, _⟩ <;> first | cases h | skip
    refine ⟨goInt b.size, by simp [Builtin.len_, h0, run_underlying ht], ?_⟩
    rw [← hb]; simp [goInt]
    exact .int _ _
  · rename_i hk
    have hk := Nat.eq_of_beq_eq_true hk; subst hk
    cases h1
    rcases ht with ⟨h, _⟩ | ⟨_, e, ht⟩ | ⟨h, _⟩ <;> first | cases h | skip
    exact ⟨goInt 0, by simp [Builtin.len_, h0, run_underlying ht], .int _ _⟩
  · rename_i hk
    have hk := Nat.eq_of_beq_eq_true hk; subst hk
    rcases ht with ⟨h, _⟩ | ⟨_, e, ht⟩ | ⟨h, _⟩ <;> first | cases h | skip
    cases h1 <;> exact ⟨_, by simp [Builtin.len_, h0, run_underlying ht]; rfl, .int _ _⟩
  · rename_i hk
    have hk := Nat.eq_of_beq_eq_true hk; subst hk
    cases h1
    rcases ht with ⟨h, _⟩ | ⟨h, _⟩ | ⟨_, a, c, ht⟩ <;> first | cases h | skip
    exact ⟨goInt 0, by simp [Builtin.len_, h0, run_underlying ht], .int _ _⟩
  · rename_i id hk
    have hk := Nat.eq_of_beq_eq_true hk; subst hk
    obtain ⟨b, base, size, rfl, hE⟩ := h1.map_inv
    split at hr
    · rename_i es clock hgo
      cases hr
      obtain ⟨b', base', size', ms, hx, hm, hrel⟩ := H.map_ hgo
      have e : (b', base', size') = (b, base, size) := Option.some.inj (hx.symm.trans hE)
      simp only [Prod.mk.injEq] at e
      obtain ⟨rfl, rfl, rfl⟩ := e
      have hg1 := run_getObj (P := P) hm (by intros; simp)
      rcases ht with ⟨h, _⟩ | ⟨h, _⟩ | ⟨_, a, c, ht⟩ <;> first | cases h | skip
      have hlen : ∀ {es : List (AV × AV × Nat)} {ms : List MapEntry}, EntriesRel σ E es ms → es.length = ms.length := by
        intro es ms
        induction es generalizing ms with
        | nil => cases ms with | nil => intro _; rfl | cons _ _ => intro h; exact h.elim
        | cons a as ih => cases ms with | nil => intro h; exact h.elim | cons m ms => intro h; obtain ⟨_, _, _⟩ := a; simp [ih h.2.2.2]
      have := hlen hrel
      simp only [Array.length_toList] at this
      exact ⟨goInt ms.size, by simp [Builtin.len_, h0, run_underlying ht, hg1], by rw [this]; exact .int _ _⟩
    · cases hr
theorem pur_cap {t e ty : TypeId} {ts : Array TypeId} (h0 : ts[0]? = some t) (ht : P.underlying t = some (.slice e)) {vs : List AV} {x : Value} (hv : VRels σ E vs [x]) : Pur P σ E w (sCap vs) (Builtin.cap_ ts ty #[x]) := by
  intro r hr
  have one : ∀ {v : AV}, vs = [v] → VRel σ E v x := fun e => by subst e; obtain ⟨u, hu, h1⟩ := hv.one_inv; simp only [List.cons.injEq, and_true] at hu; subst hu; exact h1
  unfold sCap at hr
  split at hr <;> cases hr
  · have h1 := one rfl
    cases h1
    exact ⟨goInt 0, by simp [Builtin.cap_, h0, run_underlying ht], .int _ _⟩
  · have h1 := one rfl
    cases h1 with
    | slice _ _ _ _ _ b base size c hE hc hl =>
      have : c = _ := hc
      subst this
      exact ⟨_, by simp [Builtin.cap_, h0, run_underlying ht]; rfl, .int _ _⟩
    | slice00 => exact ⟨_, by simp [Builtin.cap_, h0, run_underlying ht]; rfl, .int _ _⟩
theorem mm_fold {mx : Bool} : ∀ (vs : List AV) (us : List Value) (acc : AV) (x : Value) (r : AV), VRels σ E vs us → VRel σ E acc x → mmF mx vs acc = some r → ∃ u, (us.foldlM (if mx then Builtin.max2 else Builtin.min2) x).run P w = .ok u w ∧ VRel σ E r u
  | [], us, acc, x, r, hv, ha, h => by cases hv; cases h; exact ⟨x, by simp, ha⟩
  | v :: vs, us, acc, x, r, hv, ha, h => by
    cases hv with
    | cons _ u _ us hvu hvs =>
      simp only [mmF] at h
      split at h
      · rename_i c hc
        unfold mm2 at hc
        split at hc
        · rename_i k a k' b
          cases hc
          obtain rfl := ha.int_inv
          obtain rfl := hvu.int_inv
          obtain ⟨u, hu, hr⟩ := mm_fold vs us _ _ r hvs (.int k _) h
          refine ⟨u, ?_, hr⟩
          rw [List.foldlM_cons, Sem.run_bind]
          cases mx
          · have : (Builtin.min2 (.int k a) (.int k' b)).run P w = .ok (.int k (if b < a then b else a)) w := by simp [Builtin.min2]
            simp only [Bool.false_eq_true, if_false] at hu ⊢
            rw [this]; exact hu
          · have : (Builtin.max2 (.int k a) (.int k' b)).run P w = .ok (.int k (if a < b then b else a)) w := by simp [Builtin.max2]
            simp only [if_true] at hu ⊢
            rw [this]; exact hu
        · cases hc
      · cases h
theorem pur_minmax {mx : Bool} {ts : Array TypeId} {ty : TypeId} {vs : List AV} {us : List Value} (hv : VRels σ E vs us) : Pur P σ E w (minmax mx vs) (if mx then Builtin.max_ ts ty us.toArray else Builtin.min_ ts ty us.toArray) := by
  intro r hr
  cases hv with
  | nil => cases hr
  | cons v u vs us hvu hvs =>
    obtain ⟨u', hu, hrel⟩ := mm_fold vs us v u r hvs hvu hr
    refine ⟨u', ?_, hrel⟩
    cases mx <;> simpa [Builtin.max_, Builtin.min_] using hu
end Go.Hx
