/- strings.Join, as one of the functions that the executor takes by what is proved of them. -/
import Derived.Test.YtdbdebcakemmbaaGreatDoorHxSorted
import Derived.Shelf.Strings.OnBuilder
namespace Go.Hx
open Go Go.RowKit Go.Shelf Go.Proofs
variable {σ : Nat → Value} {B : Nat} {E E' : Emb} {w w' : World} {P : Program} {gm : Nat → Nat → Option AV} {ρ : Ren}
def joinL (sep : List Nat) : List (List Nat) → List Nat
  | [] => []
  | [x] => x
  | x :: y :: l => x ++ sep ++ joinL sep (y :: l)
def strsOf : List AV → Option (List (List Nat))
  | [] => some []
  | .str s :: l => (strsOf l).map (s :: ·)
  | _ => none
noncomputable def pJoin : List AV → Heap → List (AV × Heap)
  | [.nils, .str _], h => [(.str [], h)]
  | [.slice id off len es _, .str sep], h => match h.objs.get id with
    | some (.cells cs _ _) => match getRange cs off len with
      | some l => match strsOf l with
        | some ss => if Nat.beq es 1 && Nat.ble len 4294967296 && Nat.ble (joinL sep ss).length 4294967296 then [(.str (joinL sep ss), h)] else []
        | none => []
      | none => []
    | _ => []
  | _, _ => []
theorem joinL_eq (sep : List UInt8) : ∀ (l : List (List UInt8)), joinL (sep.map UInt8.toNat) (l.map (List.map UInt8.toNat)) = (Lib.join l sep).map UInt8.toNat
  | [] => rfl
  | [x] => by simp [joinL, Lib.join_one]
  | x :: y :: l => by
    have ih := joinL_eq sep (y :: l)
    have e : Lib.join (x :: y :: l) sep = x ++ sep ++ Lib.join (y :: l) sep := by simp [Lib.join, List.intercalate, List.intersperse]
    simp only [List.map_cons] at ih ⊢
    rw [joinL, ih, e]
    simp
theorem strsOf_real : ∀ {l : List AV} {ss : List (List Nat)} {us : List Value}, strsOf l = some ss → VRels σ E l us → ∃ bs : List ByteArray, us = bs.map Value.string ∧ bs.map (fun b => b.data.toList.map UInt8.toNat) = ss
  | [], ss, us, h, hr => by cases h; cases hr; exact ⟨[], rfl, rfl⟩
  | .str s :: l, ss, us, h, hr => by
    obtain ⟨ss', h1, rfl⟩ := Option.map_eq_some_iff.1 h
    cases hr with
    | cons _ u _ us h2 h3 =>
      obtain ⟨bs, e1, e2⟩ := strsOf_real h1 h3
      cases h2 with
      | str _ b hb => exact ⟨b :: bs, by rw [e1]; rfl, by simp [hb, e2]⟩
  | .bool _ :: _, _, _, h, _ => by cases h
  | .int _ _ :: _, _, _, h, _ => by cases h
  | .nilp :: _, _, _, h, _ => by cases h
  | .ptr _ _ :: _, _, _, h, _ => by cases h
  | .gptr _ _ :: _, _, _, h, _ => by cases h
  | .nils :: _, _, _, h, _ => by cases h
  | .slice _ _ _ _ _ :: _, _, _, h, _ => by cases h
  | .nilm :: _, _, _, h, _ => by cases h
  | .map _ :: _, _, _, h, _ => by cases h
  | .func _ _ _ :: _, _, _, h, _ => by cases h
  | .nilf :: _, _, _, h, _ => by cases h
  | .iface _ _ :: _, _, _, h, _ => by cases h
  | .nili :: _, _, _, h, _ => by cases h
  | .agg _ :: _, _, _, h, _ => by cases h
  | .tup _ :: _, _, _, h, _ => by cases h
  | .opq _ :: _, _, _, h, _ => by cases h
theorem range_real {cs : T AV} {c : Array Value} {base : Nat} (hcs : ∀ i v, cs.get i = some v → ∃ u, c[base + i]? = some u ∧ VRel σ E v u) : ∀ (n off : Nat) {l : List AV}, getRange cs off n = some l → ∃ us : List Value, VRels σ E l us ∧ ∀ (j : Nat) u, us[j]? = some u → c[base + off + j]? = some u
  | 0, off, l, h => by rw [getRange_zero] at h; cases h; exact ⟨[], .nil, fun j u hj => by simp at hj⟩
  | n + 1, off, l, h => by
    rw [getRange_succ] at h
    split at h
    · rename_i v l' hv hl
      cases h
      obtain ⟨u, hu, hr⟩ := hcs off v hv
      obtain ⟨us, h1, h2⟩ := range_real hcs n (off + 1) hl
      refine ⟨u :: us, .cons _ _ _ _ hr h1, fun j z hj => ?_⟩
      cases j with
      | zero => simp at hj; subst hj; exact hu
      | succ j =>
        have := h2 j z (by simpa using hj)
        have e : base + off + (j + 1) = base + (off + 1) + j := by omega
        rw [e]; exact this
    · cases h
theorem prim_join (L : Lays.n156 P ρ) (X : Builder.Extra P ρ) (e0 : ∀ args w, (callFunc (ρ.f 156) args).run P w = .ok (.enter (ρ.f 156) args) w) (hb : GmB B gm) : ∀ args vs h E w, VRels σ E args vs.toList → HR σ B gm E h w → pJoin args h ≠ [] →
    Enters P (ρ.f 156) vs w fun u w' => ∃ x ∈ pJoin args h, ∃ E', VRel σ E' x.1 u ∧ HR σ B gm E' x.2 w' ∧ Tr B E h.objs.get h.next w E' x.2.objs.get x.2.next w' := by
  intro args vs h E w hv H hne
  have back : ∀ {r : List Nat} {s : ByteArray}, s.data.toList.map UInt8.toNat = r → pJoin args h = [(.str r, h)] → Calls P (ρ.f 156) vs w (fun e w' => e = .returned (.string s) ∧ Below w.heap.size w w') →
      Enters P (ρ.f 156) vs w fun u w' => ∃ x ∈ pJoin args h, ∃ E', VRel σ E' x.1 u ∧ HR σ B gm E' x.2 w' ∧ Tr B E h.objs.get h.next w E' x.2.objs.get x.2.next w' := fun hs hp hc => by
    refine .inl ⟨e0 _ _, Calls.mono hc fun e w' ⟨h1, h2⟩ => ?_⟩
    subst h1
    obtain ⟨H', tr⟩ := H.below hb h2
    exact ⟨_, rfl, _, by rw [hp]; exact List.mem_singleton.2 rfl, E, .str _ _ hs, H', tr⟩
  have vs2 : ∀ {a b : Value}, vs.toList = [a, b] → vs = #[a, b] := fun h => by cases vs; simp at h; subst h; rfl
  obtain ⟨r, hpj⟩ : ∃ r, pJoin args h = r := ⟨_, rfl⟩
  have hne2 : r ≠ [] := hpj ▸ hne
  unfold pJoin at hpj
  split at hpj
  · rename_i sep h0
    generalize hl : vs.toList = l at hv
    cases hv with
    | cons _ u _ us h1 hs => cases h1; cases hs with
      | cons _ u2 _ us2 h2 hs2 => cases hs2; cases h2 with
        | str _ b hbb =>
          obtain rfl := vs2 hl
          exact back (s := ⟨#[]⟩) rfl rfl (Calls.mono (Any.strings_Join_none L X none 0 b w) fun e w' ⟨h1, h2⟩ => ⟨h1, h2 ▸ Below.refl _ _⟩)
  · rename_i h0 id off len es cap sep
    split at hpj
    · rename_i cs lo cl hid
      split at hpj
      · rename_i l hl
        split at hpj
        · rename_i ss hss
          split at hpj
          · rename_i hc
            simp only [Bool.and_eq_true] at hc
            have hlen := Nat.le_of_ble_eq_true hc.1.2
            have hjl := Nat.le_of_ble_eq_true hc.2
            have hp : pJoin [.slice id off len es cap, .str sep] h = [(.str (joinL sep ss), h)] := by
              simp [pJoin, hid, hl, hss, hc.1.1, hc.1.2, hc.2]
            generalize hvl : vs.toList = vl at hv
            cases hv with
            | cons _ u _ us h1 hs => cases hs with
              | cons _ u2 _ us2 h2 hs2 =>
                cases hs2
                cases h2 with
                | str _ sb hsb =>
                  obtain rfl := vs2 hvl
                  obtain ⟨b', base', size', c, elem, frz, hx, _, hlt, hbk, hsz, hlo, _, hcs, _⟩ := H.obj.cells hid
                  obtain ⟨us, hr, hat⟩ := range_real (σ := σ) (E := E) (fun i v hi => let ⟨_, u, a, b, _⟩ := hcs i v hi; ⟨u, a, b⟩) len off hl
                  obtain ⟨bs, e1, e2⟩ := strsOf_real hss hr
                  have hbl : bs.length = len := by
                    have h3 := hr.length
                    rw [e1, List.length_map] at h3
                    rw [← h3]
                    exact (getRange_spec _ _ _ _ hl).1
                  have hj : (Lib.join (bs.map (·.data.toList)) sb.data.toList).map UInt8.toNat = joinL sep ss := by
                    rw [← joinL_eq, hsb, List.map_map, ← e2]
                    rfl
                  have hjlen : (Lib.join (bs.map (·.data.toList)) sb.data.toList).length ≤ 140737488355328 := by
                    have := congrArg List.length hj
                    rw [List.length_map] at this
                    omega
                  cases h1 with
                  | slice _ _ _ _ _ b base size cc hE hcap hle =>
                    have e : (b', base', size') = (b, base, size) := Option.some.inj (hx.symm.trans hE)
                    cases e
                    refine back (s := ⟨(Lib.join (bs.map (·.data.toList)) sb.data.toList).toArray⟩) (by simpa using hj) hp ?_
                    have := Any.strings_Join L X b' (base' + off) cc bs sb w (fun j x hx => ?_) hlt (by omega) (by omega) hjlen
                    · rw [hbl] at this
                      exact this
                    · rw [cell_at hbk]
                      exact hat j _ (by rw [e1]; simp [hx])
                  | slice0 _ _ _ b base size aa hE hs0 =>
                    have hb0 : bs = [] := List.eq_nil_of_length_eq_zero hbl
                    subst hb0
                    refine back (s := ⟨#[]⟩) (by have := hj; rw [List.map_nil, Lib.join_nil] at this; simpa using this) hp (Calls.mono (Any.strings_Join_none L X (some aa) 0 sb w) fun e w' ⟨h1, h2⟩ => ⟨h1, h2 ▸ Below.refl _ _⟩)
                  | slice00 _ _ _ _ _ _ aa _ =>
                    have hb0 : bs = [] := List.eq_nil_of_length_eq_zero hbl
                    subst hb0
                    refine back (s := ⟨#[]⟩) (by have := hj; rw [List.map_nil, Lib.join_nil] at this; simpa using this) hp (Calls.mono (Any.strings_Join_none L X (some aa) 0 sb w) fun e w' ⟨h1, h2⟩ => ⟨h1, h2 ▸ Below.refl _ _⟩)
          · exact absurd hpj.symm hne2
        · exact absurd hpj.symm hne2
      · exact absurd hpj.symm hne2
    · exact absurd hpj.symm hne2
  · exact absurd hpj.symm hne2
end Go.Hx
