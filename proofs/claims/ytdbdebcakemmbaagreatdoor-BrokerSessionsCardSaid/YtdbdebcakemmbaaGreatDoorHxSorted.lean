/- slices.Sorted at what maps.Keys hands back, as the executor takes it. -/
import Derived.Test.YtdbdebcakemmbaaGreatDoorHxCalls
import Derived.Below
import Derived.MapKept
namespace Go.Hx
open Go Go.RowKit Go.MapKept
/-! ### What the executor does -/
def keyInts : List (AV × AV × Nat) → Option (List Nat)
  | [] => some []
  | (.int .i64 (.ofNat n), _, _) :: es => if Nat.ble n 9223372036854775807 then (keyInts es).map (n :: ·) else none
  | _ => none
def keyStrs : List (AV × AV × Nat) → Option (List (List Nat))
  | [] => some []
  | (.str s, _, _) :: es => if Nat.ble s.length 4294967296 then (keyStrs es).map (s :: ·) else none
  | _ => none
def borns : List (AV × AV × Nat) → List Nat
  | [] => []
  | e :: es => e.2.2 :: borns es
def distinctN : List Nat → Bool
  | [] => true
  | x :: xs => !memN x xs && distinctN xs
def memS (s : List Nat) : List (List Nat) → Bool
  | [] => false
  | t :: ts => lbeq s t || memS s ts
def distinctS : List (List Nat) → Bool
  | [] => true
  | x :: xs => !memS x xs && distinctS xs
def allLt (n : Nat) : List Nat → Bool
  | [] => true
  | x :: xs => Nat.blt x n && allLt n xs
def insN (x : Nat) : List Nat → List Nat
  | [] => [x]
  | y :: ys => if Nat.ble x y then x :: y :: ys else y :: insN x ys
def sortN : List Nat → List Nat
  | [] => []
  | x :: xs => insN x (sortN xs)
def insS (x : List Nat) : List (List Nat) → List (List Nat)
  | [] => [x]
  | y :: ys => if lless y x then y :: insS x ys else x :: y :: ys
def sortS : List (List Nat) → List (List Nat)
  | [] => []
  | x :: xs => insS x (sortS xs)
/-- The new row. -/
noncomputable def rowOf (l : List AV) (h : Heap) : List (AV × Heap) := match l with
  | [] => [(.nils, h)]
  | v :: vs => [(.slice h.next 0 (vs.length + 1) 1 none, ⟨h.next + 1, T.set 0 h.objs h.next (some (.cells (ofList (v :: vs)) (vs.length + 1) false))⟩)]
noncomputable def pSorted (strs : Bool) (inner : Nat) : List AV → Heap → List (AV × Heap)
  | [.func f [] [.ptr id 0]], h =>
    if !(Nat.beq f inner) then [] else match h.objs.get id with
    | some (.cells cs _ true) => match cs.get 0 with
      | some .nilm => [(.nils, h)]
      | some (.map m) => match h.objs.get m with
        | some (.map es clock) =>
          if distinctN (borns es) && allLt clock (borns es) && Nat.ble es.length 4294967296 then
            if strs then match keyStrs es with
              | some ks => if distinctS ks then rowOf ((sortS ks).map .str) h else []
              | none => []
            else match keyInts es with
              | some ks => if distinctN ks then rowOf ((sortN ks).map fun n => .int .i64 (.ofNat n)) h else []
              | none => []
          else []
        | _ => []
      | _ => []
    | _ => []
  | _, _ => []

/-! ### What is asked of the functions -/
def intV : Value → Int
  | .int _ n => n
  | _ => 0
def strV : Value → List UInt8
  | .string s => s.data.toList
  | _ => []
structure SortsI (P : Program) (f inner : FuncId) : Prop where
  some' : ∀ (W : World) (Bm b : Nat) (ms : Array MapEntry) (clock : Nat), W.cell? ⟨Bm, 0, none⟩ = some (.map (some b)) → Bm < W.heap.size → W.heap[b]? = some (.map ms clock) → Stamped ms clock →
    (∀ x ∈ ms.toList, ∃ n : Nat, x.key = .int .i64 n ∧ n ≤ 9223372036854775807) → ms.size ≤ 4294967296 →
    Enters P f #[.func (.func inner) #[] #[.pointer (some ⟨Bm, 0, none⟩)]] W fun v w' => ∃ (K : TypeId) (ss : List Int), ss.Perm (ms.toList.map fun x => intV x.key) ∧
      w'.ownsRow W.heap.size K 1 v ss.length ((ss.mergeSort (fun x y => decide (x ≤ y))).map fun n => Value.int .i64 n) ∧ (v = .slice none 0 0 ↔ ss = []) ∧ Below W.heap.size W w'
  none' : ∀ (W : World) (Bm : Nat), W.cell? ⟨Bm, 0, none⟩ = some (.map none) → Bm < W.heap.size →
    Enters P f #[.func (.func inner) #[] #[.pointer (some ⟨Bm, 0, none⟩)]] W fun v w' => v = .slice none 0 0 ∧ Below W.heap.size W w'
structure SortsS (P : Program) (f inner : FuncId) : Prop where
  some' : ∀ (W : World) (Bm b : Nat) (ms : Array MapEntry) (clock : Nat), W.cell? ⟨Bm, 0, none⟩ = some (.map (some b)) → Bm < W.heap.size → W.heap[b]? = some (.map ms clock) → Stamped ms clock →
    (∀ x ∈ ms.toList, ∃ s : ByteArray, x.key = .string s ∧ s.size ≤ 4294967296) → ms.size ≤ 4294967296 →
    Enters P f #[.func (.func inner) #[] #[.pointer (some ⟨Bm, 0, none⟩)]] W fun v w' => ∃ (K : TypeId) (ss : List (List UInt8)), ss.Perm (ms.toList.map fun x => strV x.key) ∧
      w'.ownsRow W.heap.size K 1 v ss.length ((ss.mergeSort (fun x y => decide (x ≤ y))).map fun s => Value.string ⟨s.toArray⟩) ∧ (v = .slice none 0 0 ↔ ss = []) ∧ Below W.heap.size W w'
  none' : ∀ (W : World) (Bm : Nat), W.cell? ⟨Bm, 0, none⟩ = some (.map none) → Bm < W.heap.size →
    Enters P f #[.func (.func inner) #[] #[.pointer (some ⟨Bm, 0, none⟩)]] W fun v w' => v = .slice none 0 0 ∧ Below W.heap.size W w'

/-! ### Lists -/
theorem memN_iff {x : Nat} : ∀ {l : List Nat}, memN x l = true ↔ x ∈ l
  | [] => by simp [memN]
  | y :: ys => by
    simp only [memN, Bool.or_eq_true, memN_iff (l := ys), List.mem_cons]
    constructor
    · rintro (h | h)
      · exact .inl (Nat.eq_of_beq_eq_true h)
      · exact .inr h
    · rintro (rfl | h)
      · exact .inl (Nat.beq_refl _)
      · exact .inr h
theorem distinctN_nodup : ∀ {l : List Nat}, distinctN l = true → l.Nodup
  | [], _ => .nil
  | x :: xs, h => by
    simp only [distinctN, Bool.and_eq_true, Bool.not_eq_true'] at h
    refine List.nodup_cons.2 ⟨fun hm => ?_, distinctN_nodup h.2⟩
    rw [memN_iff.2 hm] at h
    cases h.1
theorem memS_iff {x : List Nat} : ∀ {l : List (List Nat)}, memS x l = true ↔ x ∈ l
  | [] => by simp [memS]
  | y :: ys => by
    simp only [memS, Bool.or_eq_true, memS_iff (l := ys), List.mem_cons, lbeq_eq]
theorem distinctS_nodup : ∀ {l : List (List Nat)}, distinctS l = true → l.Nodup
  | [], _ => .nil
  | x :: xs, h => by
    simp only [distinctS, Bool.and_eq_true, Bool.not_eq_true'] at h
    refine List.nodup_cons.2 ⟨fun hm => ?_, distinctS_nodup h.2⟩
    rw [memS_iff.2 hm] at h
    cases h.1
theorem allLt_spec {n : Nat} : ∀ {l : List Nat}, allLt n l = true → ∀ x ∈ l, x < n
  | [], _, x, hx => by simp at hx
  | y :: ys, h, x, hx => by
    simp only [allLt, Bool.and_eq_true] at h
    rcases List.mem_cons.1 hx with rfl | hx
    · exact Nat.le_of_ble_eq_true h.1
    · exact allLt_spec h.2 x hx
theorem insN_perm (x : Nat) : ∀ l : List Nat, (insN x l).Perm (x :: l)
  | [] => .refl _
  | y :: ys => by
    unfold insN
    split
    · exact .refl _
    · exact ((insN_perm x ys).cons y).trans (List.Perm.swap x y ys)
theorem sortN_perm : ∀ l : List Nat, (sortN l).Perm l
  | [] => .refl _
  | x :: xs => (insN_perm x _).trans ((sortN_perm xs).cons x)
theorem insN_sorted {x : Nat} : ∀ {l : List Nat}, l.Pairwise (· ≤ ·) → (insN x l).Pairwise (· ≤ ·)
  | [], _ => by simp [insN]
  | y :: ys, h => by
    have h' := List.pairwise_cons.1 h
    unfold insN
    split
    · rename_i hb
      have hle : x ≤ y := Nat.le_of_ble_eq_true hb
      exact List.pairwise_cons.2 ⟨fun z hz => by rcases List.mem_cons.1 hz with rfl | hz; exact hle; exact Nat.le_trans hle (h'.1 z hz), h⟩
    · rename_i hb
      have hle : y ≤ x := by
        rcases Nat.le_total x y with h1 | h1
        · exact absurd (Nat.ble_eq.mpr h1) hb
        · exact h1
      refine List.pairwise_cons.2 ⟨fun z hz => ?_, insN_sorted h'.2⟩
      rcases List.mem_cons.1 ((insN_perm x ys).mem_iff.1 hz) with rfl | hz
      · exact hle
      · exact h'.1 z hz
theorem sortN_sorted : ∀ l : List Nat, (sortN l).Pairwise (· ≤ ·)
  | [] => .nil
  | _ :: xs => insN_sorted (sortN_sorted xs)
/-- What Go's sort gives is what the executor's gives. -/
theorem sortI_eq {ks : List Nat} {ss : List Int} (h : ss.Perm (ks.map fun n : Nat => (n : Int))) : ss.mergeSort (fun x y => decide (x ≤ y)) = (sortN ks).map fun n : Nat => (n : Int) := by
  have tr : ∀ a b c : Int, decide (a ≤ b) = true → decide (b ≤ c) = true → decide (a ≤ c) = true := fun a b c h1 h2 => by simp only [decide_eq_true_eq] at *; omega
  have to : ∀ a b : Int, (decide (a ≤ b) || decide (b ≤ a)) = true := fun a b => by simp only [Bool.or_eq_true, decide_eq_true_eq]; omega
  refine List.Perm.eq_of_pairwise (le := fun a b => decide (a ≤ b) = true) (fun a b _ _ h1 h2 => by simp only [decide_eq_true_eq] at h1 h2; omega) (List.pairwise_mergeSort tr to ss) ?_ ?_
  · exact List.pairwise_map.2 ((sortN_sorted ks).imp fun {a b} hab => by simp only [decide_eq_true_eq]; omega)
  · exact ((List.mergeSort_perm ss _).trans h).trans ((sortN_perm ks).symm.map _)
end Go.Hx
/- slices.Sorted of maps.Keys: the executor's word for it is right. -/
namespace Go.Hx
open Go Go.RowKit Go.MapKept
variable {σ : Nat → Value} {B : Nat} {E E' : Emb} {w w' : World} {P : Program} {gm : Nat → Nat → Option AV}
/-- A new object, in a block that none has. -/
theorem HObj.add {g : Nat → Option AO} (H : HObj σ B E g w) {nid : Nat} (hn : E nid = none) {x : Nat × Nat × Nat} {o : AO} (hfree : ∀ id o y, g id = some o → E id = some y → y.1 ≠ x.1) (hB : B ≤ x.1) (hlt : x.1 < w.heap.size) (ho : ORel σ (E.put nid x) x o w.heap[x.1]?) :
    HObj σ B (E.put nid x) (upd1 g nid (some o)) w := by
  have he : Emb.le E (E.put nid x) := Emb.le_put hn
  have hold : ∀ id o', id ≠ nid → upd1 g nid (some o) id = some o' → g id = some o' := fun id o' hne hh => by simpa [upd1, hne] using hh
  refine ⟨fun id o' hid => ?_, fun i j oi oj a b hi hj ha hb hab => ?_⟩
  · by_cases e : id = nid
    · subst e
      have : o' = o := by simpa [upd1] using hid.symm
      subst this
      exact ⟨x, Emb.put_same, hB, hlt, ho⟩
    · obtain ⟨y, a, b, c, d⟩ := H.obj id o' (hold id o' e hid)
      exact ⟨y, he _ _ a, b, c, d.mono he⟩
  · have key : ∀ k ok z, upd1 g nid (some o) k = some ok → (E.put nid x) k = some z → k ≠ nid → g k = some ok ∧ E k = some z := fun k ok z hk hz hne => ⟨hold k ok hne hk, by rw [Emb.put_other hne] at hz; exact hz⟩
    by_cases ei : i = nid <;> by_cases ej : j = nid
    · rw [ei, ej]
    · exfalso
      have h1 : a = x := by rw [ei, Emb.put_same] at ha; exact (Option.some.inj ha).symm
      obtain ⟨h2, h3⟩ := key j oj b hj hb ej
      exact hfree j oj b h2 h3 (by rw [← hab, h1])
    · exfalso
      have h1 : b = x := by rw [ej, Emb.put_same] at hb; exact (Option.some.inj hb).symm
      obtain ⟨h2, h3⟩ := key i oi a hi ha ei
      exact hfree i oi a h2 h3 (by rw [hab, h1])
    · obtain ⟨h2, h3⟩ := key i oi a hi ha ei
      obtain ⟨h4, h5⟩ := key j oj b hj hb ej
      exact H.inj i j oi oj a b h2 h4 h3 h5 hab
/-- A later world whose old blocks are as they were. -/
theorem HR.below {h : Heap} (H : HR σ B gm E h w) (hb : GmB B gm) (hw : Below w.heap.size w w') : HR σ B gm E h w' ∧ Tr B E h.objs.get h.next w E h.objs.get h.next w' := by
  refine ⟨⟨H.obj.agree hw.size fun id o x hid hx => ?_, H.fresh, Nat.le_trans H.size hw.size, gm_keep hb H.size H.gm fun b hlt => hw.block b (Nat.lt_of_lt_of_le hlt H.size)⟩, ⟨fun _ _ => rfl, Nat.le_refl _, hw.size, fun k hk _ => hw.block k hk, hw.os, hw.tape, hw.output, (fun id x hid hx => by rw [H.fresh id hid] at hx; cases hx), fun id o hid => .inr ⟨o, hid⟩⟩⟩
  obtain ⟨x', a, _, c, _⟩ := H.obj.obj id o hid
  have e : x' = x := Option.some.inj (a.symm.trans hx)
  subst e
  exact hw.block _ c
theorem rowOf_cons (v : AV) (vs : List AV) (h : Heap) : rowOf (v :: vs) h = [(.slice h.next 0 (vs.length + 1) 1 none, ⟨h.next + 1, T.set 0 h.objs h.next (some (.cells (ofList (v :: vs)) (vs.length + 1) false))⟩)] := rfl
/-- The row that comes back. -/
theorem row_back {h : Heap} (H : HR σ B gm E h w) (hb : GmB B gm) {l : List AV} {us : List Value} {K : TypeId} {v : Value} (hrow : w'.ownsRow w.heap.size K 1 v us.length us) (hnil : v = .slice none 0 0 ↔ us = []) (hl : VRels σ (fun _ => none) l us) (hone : ∀ u ∈ us, u.oneCell' = true) (hbelow : Below w.heap.size w w') :
    ∃ x ∈ rowOf l h, ∃ E', VRel σ E' x.1 v ∧ HR σ B gm E' x.2 w' ∧ Tr B E h.objs.get h.next w E' x.2.objs.get x.2.next w' := by
  obtain ⟨H', tr⟩ := H.below hb hbelow
  cases l with
  | nil =>
    cases hl
    rw [hnil.2 rfl]
    exact ⟨(.nils, h), List.mem_singleton.2 rfl, E, .nils, H', tr⟩
  | cons a as =>
    have hne : us ≠ [] := by cases hl; simp
    have hlen := hl.length
    rcases hrow.2 with ⟨h1, h2⟩ | ⟨g, cap, cur, rfl, hg, hgb, r1, r2, r3, r4⟩
    · exact absurd (hnil.1 h1) hne
    · have hglt : g < w'.heap.size := (Array.getElem?_eq_some_iff.1 hgb).1
      have hn : E h.next = none := H.fresh _ (Nat.le_refl _)
      have hfree : ∀ id o y, h.objs.get id = some o → E id = some y → y.1 ≠ g := fun id o y hid hy => by
        obtain ⟨y', a, _, c, _⟩ := H.obj.obj id o hid
        have e : y' = y := Option.some.inj (a.symm.trans hy)
        subst e
        omega
      have hEle : Emb.le (fun _ => none) (E.put h.next (g, 0, cap)) := fun id x hx => by cases hx
      have hO : ORel σ (E.put h.next (g, 0, cap)) (g, 0, cap) (.cells (ofList (a :: as)) (as.length + 1) false) w'.heap[g]? := by
        refine ⟨cur, K, (0, 0), hgb, by simpa using r3, ?_, (fun h => by cases h), fun i u hi => ?_, fun off _ _ hf => by omega⟩
        · simp only [Nat.zero_add]
          rw [← hlen] at r1
          simpa using r1
        · rw [ofList_get] at hi
          obtain ⟨z, hz, hr⟩ := hl.get hi
          have hilt : i < us.length := by
            rcases Nat.lt_or_ge i us.length with h' | h'
            · exact h'
            · rw [List.getElem?_eq_none h'] at hz; cases hz
          refine ⟨by rw [← hlen] at hilt; simpa using hilt, z, ?_, hr.mono hEle, hone z (List.mem_of_getElem? hz)⟩
          simp only [Nat.zero_add]
          have : (cur.toList.take (us.length * 1))[i]? = us[i]? := by rw [r4]
          rw [List.getElem?_take, if_pos (by omega), hz] at this
          simpa using this
      refine ⟨_, List.mem_singleton.2 rfl, E.put h.next (g, 0, cap), ?_, ⟨?_, fun id hid => ?_, H'.size, H'.gm⟩, ⟨fun id hid => Emb.put_other (by omega), Nat.le_succ _, hbelow.size, fun k hk _ => hbelow.block k hk, hbelow.os, hbelow.tape, hbelow.output, fun id x hid hx => ?_, fun id o hid => ?_⟩⟩
      · have e : us.length = as.length + 1 := by rw [← hlen]; rfl
        rw [e] at r1 ⊢
        have := VRel.slice (σ := σ) (E := E.put h.next (g, 0, cap)) h.next 0 (as.length + 1) 1 none g 0 cap cap Emb.put_same (by show 0 + 0 + cap * 1 = cap; omega) r1
        simpa using this
      · show HObj σ B _ (T.set 0 h.objs h.next _).get w'
        have e : (T.set 0 h.objs h.next (some (.cells (ofList (a :: as)) (as.length + 1) false))).get = upd1 h.objs.get h.next (some (.cells (ofList (a :: as)) (as.length + 1) false)) := by
          funext id
          have : T.set 0 h.objs h.next (some (.cells (ofList (a :: as)) (as.length + 1) false)) = T.set (h.next + 1) h.objs h.next (some (.cells (ofList (a :: as)) (as.length + 1) false)) := rfl
          rw [this, T.get_set1]
          rfl
        rw [e]
        exact H'.obj.add hn hfree (Nat.le_trans H.size hg) hglt hO
      · have hid : h.next + 1 ≤ id := hid
        rw [Emb.put_other (by omega)]
        exact H.fresh id (by omega)
      · by_cases e : id = h.next
        · subst e
          rw [Emb.put_same] at hx
          cases hx
          exact ⟨Nat.le_trans H.size hg, .inl hg⟩
        · rw [Emb.put_other e, H.fresh id hid] at hx
          cases hx
      · by_cases e : id = h.next
        · exact .inl (by omega)
        · have : (T.set 0 h.objs h.next (some (.cells (ofList (a :: as)) (as.length + 1) false))).get id = h.objs.get id := by
            have e2 : T.set 0 h.objs h.next (some (.cells (ofList (a :: as)) (as.length + 1) false)) = T.set (h.next + 1) h.objs h.next (some (.cells (ofList (a :: as)) (as.length + 1) false)) := rfl
            rw [e2, T.get_set1, if_neg e]
          exact .inr ⟨o, by rw [← this]; exact hid⟩
/-- The arguments, and what they point to. -/
theorem sorted_args {h : Heap} (H : HR σ B gm E h w) {f id : Nat} {vs : Array Value} (hv : VRels σ E [.func f [] [.ptr id 0]] vs.toList) {cs : T AV} {lo : Nat} (hid : h.objs.get id = some (.cells cs lo true)) {a : AV} (ha : cs.get 0 = some a) :
    ∃ (Bm : Nat) (u : Value), vs = #[.func (.func f) #[] #[.pointer (some ⟨Bm, 0, none⟩)]] ∧ Bm < w.heap.size ∧ w.cell? ⟨Bm, 0, none⟩ = some u ∧ VRel σ E a u := by
  generalize hl : vs.toList = l at hv
  cases hv with
  | cons _ u _ us h1 hs =>
    cases hs
    cases h1 with
    | func _ _ _ av cv haa hc =>
      generalize hal : av.toList = al at haa
      generalize hcl : cv.toList = cl at hc
      cases haa
      cases hc with
      | cons _ u2 _ us2 h2 hs2 =>
        cases hs2
        cases h2 with
        | ptr _ _ b base size hE =>
          obtain ⟨b', base', size', c, elem, frz, hx, _, hlt, hbk, hsz, hlo, hcl', hcs, _⟩ := H.obj.cells hid
          have e : (b', base', size') = (b, base, size) := Option.some.inj (hx.symm.trans hE)
          cases e
          obtain ⟨_, rfl⟩ := hcl' rfl
          obtain ⟨_, z, hz, hzr, _⟩ := hcs 0 a ha
          refine ⟨b, z, ?_, hlt, ?_, hzr⟩
          · cases vs; simp at hl; subst hl
            cases av; simp at hal; subst hal
            cases cv; simp at hcl; subst hcl
            rfl
          · rw [cell_at hbk]
            simpa using hz
theorem borns_real : ∀ {es : List (AV × AV × Nat)} {ms : List MapEntry}, EntriesRel σ E es ms → ms.map (·.born) = borns es
  | [], [], _ => rfl
  | (_, _, _) :: es, m :: ms, ⟨_, _, c, d⟩ => by simp [borns, borns_real d, c]
  | [], _ :: _, h => h.elim
  | _ :: _, [], h => h.elim
theorem entries_length : ∀ {es : List (AV × AV × Nat)} {ms : List MapEntry}, EntriesRel σ E es ms → ms.length = es.length
  | [], [], _ => rfl
  | (_, _, _) :: es, m :: ms, ⟨_, _, _, d⟩ => by simp [entries_length d]
  | [], _ :: _, h => h.elim
  | _ :: _, [], h => h.elim
theorem keyInts_real : ∀ {es : List (AV × AV × Nat)} {ms : List MapEntry} {ks : List Nat}, EntriesRel σ E es ms → keyInts es = some ks → ms.map (·.key) = ks.map (fun n : Nat => Value.int .i64 n) ∧ ∀ n ∈ ks, n ≤ 9223372036854775807
  | [], [], ks, _, h => by cases h; exact ⟨rfl, fun n hn => by simp at hn⟩
  | e :: es, m :: ms, ks, hr, h => by
    obtain ⟨k, v, b⟩ := e
    obtain ⟨h1, _, _, h4⟩ := hr
    unfold keyInts at h
    split at h
    · rename_i heq; cases heq
    · rename_i n v' b' es' heq
      cases heq
      split at h
      · rename_i hle
        obtain ⟨ks', hk, rfl⟩ := Option.map_eq_some_iff.1 h
        obtain ⟨i1, i2⟩ := keyInts_real h4 hk
        cases hmk : m.key <;> rw [hmk] at h1 <;> cases h1
        refine ⟨by simp [hmk, i1], fun q hq => ?_⟩
        rcases List.mem_cons.1 hq with rfl | hq
        · exact Nat.le_of_ble_eq_true hle
        · exact i2 q hq
      · cases h
    · cases h
  | [], _ :: _, _, h, _ => h.elim
  | _ :: _, [], _, h, _ => h.elim
theorem keyStrs_real : ∀ {es : List (AV × AV × Nat)} {ms : List MapEntry} {ks : List (List Nat)}, EntriesRel σ E es ms → keyStrs es = some ks → ∃ bs : List ByteArray, ms.map (·.key) = bs.map Value.string ∧ bs.map (fun b => b.data.toList.map UInt8.toNat) = ks ∧ ∀ b ∈ bs, b.size ≤ 4294967296
  | [], [], ks, _, h => by cases h; exact ⟨[], rfl, rfl, fun n hn => by simp at hn⟩
  | e :: es, m :: ms, ks, hr, h => by
    obtain ⟨k, v, b⟩ := e
    obtain ⟨h1, _, _, h4⟩ := hr
    unfold keyStrs at h
    split at h
    · rename_i heq; cases heq
    · rename_i s v' b' es' heq
      cases heq
      split at h
      · rename_i hle
        obtain ⟨ks', hk, rfl⟩ := Option.map_eq_some_iff.1 h
        obtain ⟨bs, i1, i2, i3⟩ := keyStrs_real h4 hk
        generalize hmk : m.key = mk at h1
        cases h1 with
        | str _ sb hsb =>
          refine ⟨sb :: bs, by simp [hmk, i1], by simp [hsb, i2], fun q hq => ?_⟩
          rcases List.mem_cons.1 hq with rfl | hq
          · have := Nat.le_of_ble_eq_true hle
            rw [← hsb, List.length_map] at this
            have e : q.size = q.data.toList.length := Array.length_toList.symm
            omega
          · exact i3 q hq
      · cases h
    · cases h
  | [], _ :: _, _, h, _ => h.elim
  | _ :: _, [], _, h, _ => h.elim
end Go.Hx
