/- slices.Sorted of maps.Keys, as one of the functions that the executor takes by what is proved of them. -/
import Derived.Test.YtdbdebcakemmbaaGreatDoorHxSorted
import Derived.Shelf.SlIter.Nil
import Derived.Shelf.SlIterI.Nil
namespace Go.Hx
open Go Go.RowKit Go.MapKept
variable {σ : Nat → Value} {B : Nat} {E E' : Emb} {w w' : World} {P : Program} {gm : Nat → Nat → Option AV}

theorem pSorted_spec {strs : Bool} {inner : Nat} {args : List AV} {h : Heap} (hne : pSorted strs inner args h ≠ []) :
    ∃ id cs lo, args = [.func inner [] [.ptr id 0]] ∧ h.objs.get id = some (.cells cs lo true) ∧
      ((cs.get 0 = some .nilm ∧ pSorted strs inner args h = [(.nils, h)]) ∨
       ∃ m es clock, cs.get 0 = some (.map m) ∧ h.objs.get m = some (.map es clock) ∧ distinctN (borns es) = true ∧ allLt clock (borns es) = true ∧ es.length ≤ 4294967296 ∧
        ((strs = true ∧ ∃ ks, keyStrs es = some ks ∧ distinctS ks = true ∧ pSorted strs inner args h = rowOf ((sortS ks).map .str) h) ∨
         (strs = false ∧ ∃ ks, keyInts es = some ks ∧ distinctN ks = true ∧ pSorted strs inner args h = rowOf ((sortN ks).map fun n => .int .i64 (.ofNat n)) h))) := by
  generalize hr : pSorted strs inner args h = r at hne ⊢
  unfold pSorted at hr
  split at hr
  · rename_i h0 f id
    split at hr
    · rw [← hr] at hne; exact absurd rfl hne
    · rename_i hf
      have hf : f = inner := Nat.eq_of_beq_eq_true (by simpa using hf)
      subst hf
      split at hr
      · rename_i cs lo hid
        refine ⟨id, cs, lo, rfl, hid, ?_⟩
        split at hr
        · rename_i hn
          exact .inl ⟨hn, hr.symm⟩
        · rename_i m hm
          split at hr
          · rename_i es clock hes
            split at hr
            · rename_i hc
              simp only [Bool.and_eq_true] at hc
              refine .inr ⟨m, es, clock, hm, hes, hc.1.1, hc.1.2, Nat.le_of_ble_eq_true hc.2, ?_⟩
              split at hr
              · rename_i hs
                split at hr
                · rename_i ks hks
                  split at hr
                  · rename_i hd
                    exact .inl ⟨hs, ks, hks, hd, hr.symm⟩
                  · rw [← hr] at hne; exact absurd rfl hne
                · rw [← hr] at hne; exact absurd rfl hne
              · rename_i hs
                split at hr
                · rename_i ks hks
                  split at hr
                  · rename_i hd
                    exact .inr ⟨by simpa using hs, ks, hks, hd, hr.symm⟩
                  · rw [← hr] at hne; exact absurd rfl hne
                · rw [← hr] at hne; exact absurd rfl hne
            · rw [← hr] at hne; exact absurd rfl hne
          · rw [← hr] at hne; exact absurd rfl hne
        · rw [← hr] at hne; exact absurd rfl hne
      · rw [← hr] at hne; exact absurd rfl hne
  · rw [← hr] at hne; exact absurd rfl hne
/-- The map, as the library's contract wants it. -/
theorem map_real {h : Heap} (H : HR σ B gm E h w) {m : Nat} {es : List (AV × AV × Nat)} {clock : Nat} (hm : h.objs.get m = some (.map es clock)) {u : Value} (hu : VRel σ E (.map m) u) :
    ∃ (b : Nat) (ms : Array MapEntry), u = .map (some b) ∧ w.heap[b]? = some (.map ms clock) ∧ EntriesRel σ E es ms.toList := by
  cases hu with
  | map _ b base size hE =>
    obtain ⟨x, a, _, _, ms, h1, h2⟩ := H.obj.obj m _ hm
    have e : x = (b, base, size) := Option.some.inj (a.symm.trans hE)
    subst e
    exact ⟨b, ms, rfl, h1, h2⟩
theorem stamped_of {ms : Array MapEntry} {es : List (AV × AV × Nat)} {clock : Nat} (hr : EntriesRel σ E es ms.toList) (h1 : distinctN (borns es) = true) (h2 : allLt clock (borns es) = true) (h3 : (ms.toList.map (·.key)).Nodup) : Stamped ms clock := by
  have hb := borns_real hr
  refine ⟨fun x hx => ?_, by rw [hb]; exact distinctN_nodup h1, h3⟩
  have : x.born ∈ borns es := by rw [← hb]; exact List.mem_map.2 ⟨x, hx, rfl⟩
  exact allLt_spec h2 _ this
theorem nodup_map {α β : Type} {f : α → β} (hf : ∀ a b, f a = f b → a = b) : ∀ {l : List α}, l.Nodup → (l.map f).Nodup
  | [], _ => .nil
  | x :: xs, h => by
    have h := List.nodup_cons.1 h
    refine List.nodup_cons.2 ⟨fun hm => ?_, nodup_map hf h.2⟩
    obtain ⟨y, hy, e⟩ := List.mem_map.1 hm
    rw [hf _ _ e] at hy
    exact h.1 hy
theorem nodup_of_map {α β : Type} {f : α → β} : ∀ {l : List α}, (l.map f).Nodup → l.Nodup
  | [], _ => .nil
  | x :: xs, h => by
    have h := List.nodup_cons.1 h
    exact List.nodup_cons.2 ⟨fun hm => h.1 (List.mem_map.2 ⟨x, hm, rfl⟩), nodup_of_map h.2⟩
theorem rels_ints : ∀ (l : List Nat), VRels σ E (l.map fun n => .int .i64 (.ofNat n)) (l.map fun n : Nat => Value.int .i64 n)
  | [] => .nil
  | n :: l => .cons _ _ _ _ (.int .i64 n) (rels_ints l)
theorem prim_sortedI {f inner : FuncId} (hs : SortsI P f inner) (hb : GmB B gm) : ∀ args vs h E w, VRels σ E args vs.toList → HR σ B gm E h w → pSorted false inner args h ≠ [] →
    Enters P f vs w fun u w' => ∃ x ∈ pSorted false inner args h, ∃ E', VRel σ E' x.1 u ∧ HR σ B gm E' x.2 w' ∧ Tr B E h.objs.get h.next w E' x.2.objs.get x.2.next w' := by
  intro args vs h E w hv H hne
  obtain ⟨id, cs, lo, rfl, hid, hcase⟩ := pSorted_spec hne
  rcases hcase with ⟨hn, e⟩ | ⟨m, es, clock, hm, hes, hd, hlt, hlen, ⟨hf, _⟩ | ⟨_, ks, hks, hdk, e⟩⟩
  · obtain ⟨Bm, u, rfl, hBm, hcell, hu⟩ := sorted_args H hv hid hn
    cases hu
    rw [e]
    refine (hs.none' w Bm hcell hBm).mono fun v w' ⟨h1, h2⟩ => ?_
    subst h1
    obtain ⟨H', tr⟩ := H.below hb h2
    exact ⟨(.nils, h), List.mem_singleton.2 rfl, E, .nils, H', tr⟩
  · cases hf
  · obtain ⟨Bm, u, rfl, hBm, hcell, hu⟩ := sorted_args H hv hid hm
    obtain ⟨b, ms, rfl, hbk, hr⟩ := map_real H hes hu
    obtain ⟨k1, k2⟩ := keyInts_real hr hks
    have inj : ∀ a b : Nat, Value.int .i64 (a : Int) = Value.int .i64 (b : Int) → a = b := fun a b h => by
      have := (Value.int.inj h).2
      omega
    have hst : Stamped ms clock := stamped_of hr hd hlt (by rw [k1]; exact nodup_map inj (distinctN_nodup hdk))
    rw [e]
    refine (hs.some' w Bm b ms clock hcell hBm hbk hst (fun x hx => ?_) (by rw [← Array.length_toList, entries_length hr]; exact hlen)).mono fun v w' => ?_
    · have : x.key ∈ ks.map (fun n : Nat => Value.int .i64 n) := by rw [← k1]; exact List.mem_map.2 ⟨x, hx, rfl⟩
      obtain ⟨n, hn, e⟩ := List.mem_map.1 this
      exact ⟨n, e.symm, k2 n hn⟩
    · rintro ⟨K, ss, hp, hrow, hnil, hbelow⟩
      have hks' : (ms.toList.map fun x => intV x.key) = ks.map fun n : Nat => (n : Int) := by
        have := congrArg (List.map intV) k1
        simpa [List.map_map, Function.comp_def, intV] using this
      rw [hks'] at hp
      rw [sortI_eq hp] at hrow
      have hl : ss.length = (((sortN ks).map fun n : Nat => (n : Int)).map fun n => Value.int .i64 n).length := by
        rw [hp.length_eq]
        simp [(sortN_perm ks).length_eq]
      rw [hl] at hrow
      refine row_back H hb hrow (hnil.trans ⟨fun h => ?_, fun h => ?_⟩) (by rw [List.map_map]; exact rels_ints _) (fun u hu => ?_) hbelow
      · subst h
        exact List.eq_nil_of_length_eq_zero hl.symm
      · rw [h] at hl
        exact List.eq_nil_of_length_eq_zero hl
      · obtain ⟨n, _, rfl⟩ := List.mem_map.1 hu
        rfl

/-! ### Texts -/
theorem lless_iff : ∀ (x y : List UInt8), lless (x.map UInt8.toNat) (y.map UInt8.toNat) = true ↔ x < y
  | x, [] => by
    cases x <;> simp [lless]
  | [], b :: y => by simp [lless]
  | a :: x, b :: y => by
    have ih := lless_iff x y
    simp only [List.map_cons, lless, Bool.or_eq_true, Bool.and_eq_true, ih]
    rw [List.cons_lt_cons_iff]
    constructor
    · rintro (h | ⟨h1, h2⟩)
      · exact .inl (UInt8.lt_iff_toNat_lt.2 (Nat.le_of_ble_eq_true h))
      · exact .inr ⟨UInt8.toNat_inj.1 (Nat.eq_of_beq_eq_true h1), h2⟩
    · rintro (h | ⟨rfl, h2⟩)
      · exact .inl (Nat.ble_eq.mpr (UInt8.lt_iff_toNat_lt.1 h))
      · exact .inr ⟨Nat.beq_refl _, h2⟩
def leS (x y : List Nat) : Bool := !lless y x
theorem leS_iff (x y : List UInt8) : leS (x.map UInt8.toNat) (y.map UInt8.toNat) = true ↔ x ≤ y := by
  unfold leS
  rw [Bool.not_eq_true', ← Bool.not_eq_true, lless_iff]
  exact Iff.rfl
theorem insS_perm (x : List Nat) : ∀ l : List (List Nat), (insS x l).Perm (x :: l)
  | [] => .refl _
  | y :: ys => by
    unfold insS
    split
    · exact ((insS_perm x ys).cons y).trans (List.Perm.swap x y ys)
    · exact .refl _
theorem sortS_perm : ∀ l : List (List Nat), (sortS l).Perm l
  | [] => .refl _
  | x :: xs => (insS_perm x _).trans ((sortS_perm xs).cons x)
/-- Those that are bytes. -/
def AreBytes (l : List (List Nat)) : Prop := ∀ x ∈ l, ∃ b : List UInt8, x = b.map UInt8.toNat
theorem insS_sorted {x : List Nat} : ∀ {l : List (List Nat)}, AreBytes (x :: l) → l.Pairwise (fun a b => leS a b = true) → (insS x l).Pairwise (fun a b => leS a b = true)
  | [], _, _ => by simp [insS]
  | y :: ys, hb, h => by
    have h' := List.pairwise_cons.1 h
    obtain ⟨bx, ex⟩ := hb x List.mem_cons_self
    obtain ⟨by', ey⟩ := hb y (List.mem_cons_of_mem _ List.mem_cons_self)
    unfold insS
    split
    · rename_i hlt
      refine List.pairwise_cons.2 ⟨fun z hz => ?_, insS_sorted (fun z hz => hb z (by rcases List.mem_cons.1 hz with rfl | hz; exact List.mem_cons_self; exact List.mem_cons_of_mem _ (List.mem_cons_of_mem _ hz))) h'.2⟩
      rcases List.mem_cons.1 ((insS_perm x ys).mem_iff.1 hz) with rfl | hz
      · rw [ex, ey] at hlt ⊢
        rw [leS_iff]
        exact List.le_of_lt ((lless_iff _ _).1 hlt)
      · exact h'.1 z hz
    · rename_i hlt
      have hxy : leS x y = true := by unfold leS; simpa using hlt
      refine List.pairwise_cons.2 ⟨fun z hz => ?_, h⟩
      rcases List.mem_cons.1 hz with rfl | hz
      · exact hxy
      · obtain ⟨bz, ez⟩ := hb z (List.mem_cons_of_mem _ (List.mem_cons_of_mem _ hz))
        have h2 := h'.1 z hz
        rw [ex, ey, leS_iff] at hxy
        rw [ey, ez, leS_iff] at h2
        rw [ex, ez, leS_iff]
        exact List.le_trans hxy h2
theorem sortS_sorted : ∀ {l : List (List Nat)}, AreBytes l → (sortS l).Pairwise (fun a b => leS a b = true)
  | [], _ => .nil
  | x :: xs, hb => insS_sorted (fun z hz => by
      rcases List.mem_cons.1 hz with rfl | hz
      · exact hb _ List.mem_cons_self
      · exact hb z (List.mem_cons_of_mem _ ((sortS_perm xs).mem_iff.1 hz))) (sortS_sorted fun z hz => hb z (List.mem_cons_of_mem _ hz))
theorem sortS_eq {ks : List (List UInt8)} {ss : List (List UInt8)} (h : ss.Perm ks) : (ss.mergeSort (fun x y => decide (x ≤ y))).map (List.map UInt8.toNat) = sortS (ks.map (List.map UInt8.toNat)) := by
  have tr : ∀ a b c : List UInt8, decide (a ≤ b) = true → decide (b ≤ c) = true → decide (a ≤ c) = true := fun a b c h1 h2 => by simp only [decide_eq_true_eq] at *; exact List.le_trans h1 h2
  have to : ∀ a b : List UInt8, (decide (a ≤ b) || decide (b ≤ a)) = true := fun a b => by simp only [Bool.or_eq_true, decide_eq_true_eq]; exact List.le_total a b
  have hbytes : AreBytes (ks.map (List.map UInt8.toNat)) := fun x hx => by
    obtain ⟨b, _, rfl⟩ := List.mem_map.1 hx
    exact ⟨b, rfl⟩
  have hperm : ((ss.mergeSort (fun x y => decide (x ≤ y))).map (List.map UInt8.toNat)).Perm (sortS (ks.map (List.map UInt8.toNat))) :=
    (((List.mergeSort_perm ss _).trans h).map _).trans (sortS_perm _).symm
  refine List.Perm.eq_of_pairwise (le := fun a b => leS a b = true) (fun a b ha hb h1 h2 => ?_) ?_ (sortS_sorted hbytes) hperm
  · obtain ⟨x, _, rfl⟩ := List.mem_map.1 ha
    obtain ⟨y, rfl⟩ := hbytes b ((sortS_perm _).mem_iff.1 hb)
    rw [leS_iff] at h1 h2
    rw [List.le_antisymm h1 h2]
  · exact List.pairwise_map.2 ((List.pairwise_mergeSort tr to ss).imp fun {a b} hab => by rw [leS_iff]; simpa using hab)
theorem rels_strs : ∀ (l : List (List UInt8)), VRels σ E ((l.map (List.map UInt8.toNat)).map .str) (l.map fun s => Value.string ⟨s.toArray⟩)
  | [] => .nil
  | s :: l => .cons _ _ _ _ (.str _ _ rfl) (rels_strs l)
theorem prim_sortedS {f inner : FuncId} (hs : SortsS P f inner) (hb : GmB B gm) : ∀ args vs h E w, VRels σ E args vs.toList → HR σ B gm E h w → pSorted true inner args h ≠ [] →
    Enters P f vs w fun u w' => ∃ x ∈ pSorted true inner args h, ∃ E', VRel σ E' x.1 u ∧ HR σ B gm E' x.2 w' ∧ Tr B E h.objs.get h.next w E' x.2.objs.get x.2.next w' := by
  intro args vs h E w hv H hne
  obtain ⟨id, cs, lo, rfl, hid, hcase⟩ := pSorted_spec hne
  rcases hcase with ⟨hn, e⟩ | ⟨m, es, clock, hm, hes, hd, hlt, hlen, ⟨_, ks, hks, hdk, e⟩ | ⟨hf, _⟩⟩
  · obtain ⟨Bm, u, rfl, hBm, hcell, hu⟩ := sorted_args H hv hid hn
    cases hu
    rw [e]
    refine (hs.none' w Bm hcell hBm).mono fun v w' ⟨h1, h2⟩ => ?_
    subst h1
    obtain ⟨H', tr⟩ := H.below hb h2
    exact ⟨(.nils, h), List.mem_singleton.2 rfl, E, .nils, H', tr⟩
  · obtain ⟨Bm, u, rfl, hBm, hcell, hu⟩ := sorted_args H hv hid hm
    obtain ⟨b, ms, rfl, hbk, hr⟩ := map_real H hes hu
    obtain ⟨bs, k1, k2, k3⟩ := keyStrs_real hr hks
    have hbs : bs.Nodup := by
      have hn := distinctS_nodup hdk
      rw [← k2] at hn
      exact nodup_of_map hn
    have hst : Stamped ms clock := stamped_of hr hd hlt (by rw [k1]; exact nodup_map (fun a b h => Value.string.inj h) hbs)
    rw [e]
    refine (hs.some' w Bm b ms clock hcell hBm hbk hst (fun x hx => ?_) (by rw [← Array.length_toList, entries_length hr]; exact hlen)).mono fun v w' => ?_
    · have : x.key ∈ bs.map Value.string := by rw [← k1]; exact List.mem_map.2 ⟨x, hx, rfl⟩
      obtain ⟨s, hs, e⟩ := List.mem_map.1 this
      exact ⟨s, e.symm, k3 s hs⟩
    · rintro ⟨K, ss, hp, hrow, hnil, hbelow⟩
      have hks' : (ms.toList.map fun x => strV x.key) = bs.map fun s => s.data.toList := by
        have := congrArg (List.map strV) k1
        simpa [List.map_map, Function.comp_def, strV] using this
      rw [hks'] at hp
      have hsort := sortS_eq hp
      have e2 : (bs.map fun s => s.data.toList).map (List.map UInt8.toNat) = ks := by rw [List.map_map]; exact k2
      rw [e2] at hsort
      have hl : ss.length = ((ss.mergeSort (fun x y => decide (x ≤ y))).map fun s => Value.string ⟨s.toArray⟩).length := by
        rw [List.length_map, (List.mergeSort_perm ss _).length_eq]
      rw [hl] at hrow
      refine row_back H hb hrow (hnil.trans ⟨fun h => ?_, fun h => ?_⟩) (by rw [← hsort]; exact rels_strs _) (fun u hu => ?_) hbelow
      · subst h
        exact List.eq_nil_of_length_eq_zero hl.symm
      · rw [h] at hl
        exact List.eq_nil_of_length_eq_zero hl
      · obtain ⟨n, _, rfl⟩ := List.mem_map.1 hu
        rfl
  · cases hf
end Go.Hx
/- slices.Sorted of maps.Keys: what the executor asks, out of the kit's contracts. -/
namespace Go.Hx
open Go Go.RowKit Go.MapKept Go.Maps Go.Sort Go.Shelf Go.Proofs Go.WideElems Go.WideShapes Go.ChangeMaps
variable {P : Program} {ρ ρ2 : Ren}
/-- Whatever an element is: it is let be. -/
def anyR : Value → Option (DataW Unit × List MemPlace) := fun _ => some (.nil, [])
theorem sortsS_of (L6 : SlLaysZ.n6 P ρ) (L7 : SlLaysZ.n7 P ρ2) (hk : P.underlying (ρ2.t 26) = some .string) (hsort : AnyZ.SortsIn P ρ Fence.wide 4) (e6 : ∀ args w, (callFunc (ρ.f 6) args).run P w = .ok (.enter (ρ.f 6) args) w) (e9 : ∀ args w, (callFunc (ρ.f 9) args).run P w = .ok (.enter (ρ.f 9) args) w)
    (e10 : ∀ args w, (callFunc (ρ2.f 10) args).run P w = .ok (.enter (ρ2.f 10) args) w) : SortsS P (ρ.f 6) (ρ2.f 10) where
  some' W Bm b ms clock hcell hBm hb hst hkeys hsz := by
    have hrd : ∀ x ∈ ms.toList, ∃ s : ByteArray, x.key = .string s ∧ WideElems.rd P (ρ2.t 26) anyR x = some (.string s.data.toList, .nil) := fun x hx => by
      obtain ⟨s, h1, h2⟩ := hkeys x hx
      have hm : s.size ≤ maxLen := by unfold maxLen; omega
      refine ⟨s, h1, ?_⟩
      unfold WideElems.rd
      rw [h1, keyOf_string hk]
      simp only [mapKey, hk, hm, if_true]
      rfl
    have hfit : Fit P (ρ2.t 26) anyR ms clock := ⟨by unfold maxLen; omega, hst, fun x hx => let ⟨s, _, h⟩ := hrd x hx; ⟨_, h⟩⟩
    have hown : W.ownsMap P (ρ2.t 26) anyR b ms.size (.map ((ms.toList.map (rg P (ρ2.t 26) anyR)).foldr DataW.insert [])) := ⟨ms, clock, hb, hfit, Nat.le_refl _, rfl⟩
    have hsize : Maps.size (DataW.map ((ms.toList.map (rg P (ρ2.t 26) anyR)).foldr DataW.insert []) : DataW Unit) = ms.size := by
      show List.length _ = _
      rw [length_read]
    have hseq := AnyZ.keys_gives { L7 with } Fence.wide 2 trivial rfl (by omega) Bm b ms.size _ W hBm hcell hown
    have := (callsIn_wide (n := 5)).1 (AnyZ.sorted_in L6 Fence.wide 5 trivial trivial trivial trivial rfl (by omega) hsort e9 (ρ2.f 10) #[.pointer (some ⟨Bm, 0, none⟩)] trivial e10 _ _ (by rw [hsize]; unfold maxLen; omega) (by rw [hsize]; omega) W hseq)
    refine .inl ⟨e6 _ _, Calls.mono this fun e w' => ?_⟩
    rintro ⟨v, ss, rfl, hp, hrow, hnil, hbelow⟩
    refine ⟨v, rfl, _, ss, ?_, hrow, hnil, hbelow⟩
    refine hp.trans ?_
    have h1 : (strKeys (DataW.map ((ms.toList.map (rg P (ρ2.t 26) anyR)).foldr DataW.insert []) : DataW Unit)).Perm ((ms.toList.map (rg P (ρ2.t 26) anyR)).map fun p => Go.strOf p.1) := (sorted_perm _).map _
    refine h1.trans ?_
    rw [List.map_map]
    refine List.Perm.of_eq (List.map_congr_left fun x hx => ?_)
    obtain ⟨s, e1, e2⟩ := hrd x hx
    show Go.strOf (rg P (ρ2.t 26) anyR x).1 = strV x.key
    rw [rg_of e2, e1]
    rfl
  none' W Bm hcell hBm := by
    have hseq := AnyZ.keys_gives_nil (ρ := ρ2) { L7 with } Fence.wide 2 trivial rfl Bm W hBm hcell
    have := (callsIn_wide (n := 5)).1 (AnyZ.sorted_in L6 Fence.wide 5 trivial trivial trivial trivial rfl (by omega) hsort e9 (ρ2.f 10) #[.pointer (some ⟨Bm, 0, none⟩)] trivial e10 (fun ss : List (List UInt8) => ss = []) 0 (Nat.zero_le _) (by omega) W hseq)
    refine .inl ⟨e6 _ _, Calls.mono this fun e w' => ?_⟩
    rintro ⟨v, ss, rfl, hp, hrow, hnil, hbelow⟩
    exact ⟨v, rfl, hnil.2 hp, hbelow⟩
theorem sortsI_of (L6 : SlLaysZI.n6 P ρ) (L7 : SlLaysZI.n7 P ρ2) (hk : P.underlying (ρ2.t 26) = some (.int .i64)) (hsort : AnyZI.SortsIn P ρ Fence.wide 4) (e6 : ∀ args w, (callFunc (ρ.f 6) args).run P w = .ok (.enter (ρ.f 6) args) w) (e9 : ∀ args w, (callFunc (ρ.f 9) args).run P w = .ok (.enter (ρ.f 9) args) w)
    (e10 : ∀ args w, (callFunc (ρ2.f 10) args).run P w = .ok (.enter (ρ2.f 10) args) w) : SortsI P (ρ.f 6) (ρ2.f 10) where
  some' W Bm b ms clock hcell hBm hb hst hkeys hsz := by
    have hrd : ∀ x ∈ ms.toList, ∃ n : Nat, x.key = .int .i64 n ∧ WideElems.rd P (ρ2.t 26) anyR x = some (.int .i64 n, .nil) := fun x hx => by
      obtain ⟨n, h1, h2⟩ := hkeys x hx
      have hwf : (Lit.int .i64 n).wf = true := by simp [Lit.wf, IntKind.min, IntKind.max, IntKind.signed, IntKind.bits]; omega
      refine ⟨n, h1, ?_⟩
      unfold WideElems.rd
      rw [h1, keyOf_int_mk hk hwf]
      rfl
    have hfit : Fit P (ρ2.t 26) anyR ms clock := ⟨by unfold maxLen; omega, hst, fun x hx => let ⟨s, _, h⟩ := hrd x hx; ⟨_, h⟩⟩
    have hown : W.ownsMap P (ρ2.t 26) anyR b ms.size (.map ((ms.toList.map (rg P (ρ2.t 26) anyR)).foldr DataW.insert [])) := ⟨ms, clock, hb, hfit, Nat.le_refl _, rfl⟩
    have hsize : Maps.size (DataW.map ((ms.toList.map (rg P (ρ2.t 26) anyR)).foldr DataW.insert []) : DataW Unit) = ms.size := by
      show List.length _ = _
      rw [length_read]
    have hseq := AnyZI.keys_gives { L7 with } Fence.wide 2 trivial rfl (by omega) Bm b ms.size _ W hBm hcell hown
    have := (callsIn_wide (n := 5)).1 (AnyZI.sorted_in L6 Fence.wide 5 trivial trivial trivial trivial rfl (by omega) hsort e9 (ρ2.f 10) #[.pointer (some ⟨Bm, 0, none⟩)] trivial e10 _ _ (by rw [hsize]; unfold maxLen; omega) (by rw [hsize]; omega) W hseq)
    refine .inl ⟨e6 _ _, Calls.mono this fun e w' => ?_⟩
    rintro ⟨v, ss, rfl, hp, hrow, hnil, hbelow⟩
    refine ⟨v, rfl, _, ss, ?_, hrow, hnil, hbelow⟩
    refine hp.trans ?_
    have h1 : (intKeys (DataW.map ((ms.toList.map (rg P (ρ2.t 26) anyR)).foldr DataW.insert []) : DataW Unit)).Perm ((ms.toList.map (rg P (ρ2.t 26) anyR)).map fun p => Go.intOf p.1) := (sorted_perm _).map _
    refine h1.trans ?_
    rw [List.map_map]
    refine List.Perm.of_eq (List.map_congr_left fun x hx => ?_)
    obtain ⟨s, e1, e2⟩ := hrd x hx
    show Go.intOf (rg P (ρ2.t 26) anyR x).1 = intV x.key
    rw [rg_of e2, e1]
    rfl
  none' W Bm hcell hBm := by
    have hseq := AnyZI.keys_gives_nil (ρ := ρ2) { L7 with } Fence.wide 2 trivial rfl Bm W hBm hcell
    have := (callsIn_wide (n := 5)).1 (AnyZI.sorted_in L6 Fence.wide 5 trivial trivial trivial trivial rfl (by omega) hsort e9 (ρ2.f 10) #[.pointer (some ⟨Bm, 0, none⟩)] trivial e10 (fun ss : List Int => ss = []) 0 (Nat.zero_le _) (by omega) W hseq)
    refine .inl ⟨e6 _ _, Calls.mono this fun e w' => ?_⟩
    rintro ⟨v, ss, rfl, hp, hrow, hnil, hbelow⟩
    exact ⟨v, rfl, hnil.2 hp, hbelow⟩
end Go.Hx
