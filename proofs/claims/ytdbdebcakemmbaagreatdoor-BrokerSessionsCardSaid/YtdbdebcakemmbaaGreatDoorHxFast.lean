/- The executor's operations by raw recursors: the same, worked out in fewer steps. -/
import Derived.Test.YtdbdebcakemmbaaGreatDoorHxOps
namespace Go.Hx
open Go
abbrev Res := List (AV × Ws)
abbrev Gm := Nat → Nat → Option AV
abbrev Ot := MOp → List AV → Option AV
abbrev Get := Nat → Option AO
noncomputable def cInt (v : AV) (d : Res) (f : IntKind → Int → Res) : Res := AV.rec (motive_1 := fun _ => Res → (IntKind → Int → Res) → Res) (motive_2 := fun _ => Unit)
  (fun _ d _ => d) (fun k n _ f => f k n) (fun _ d _ => d) (fun d _ => d) (fun _ _ d _ => d) (fun _ _ d _ => d) (fun d _ => d) (fun _ _ _ _ _ d _ => d) (fun d _ => d) (fun _ d _ => d) (fun _ _ _ _ _ d _ => d) (fun d _ => d) (fun _ _ _ d _ => d) (fun d _ => d) (fun _ _ d _ => d) (fun _ _ d _ => d) (fun _ d _ => d) () (fun _ _ _ _ => ()) v d f
noncomputable def cPtr (v : AV) (d : Res) (f : Nat → Nat → Res) : Res := AV.rec (motive_1 := fun _ => Res → (Nat → Nat → Res) → Res) (motive_2 := fun _ => Unit)
  (fun _ d _ => d) (fun _ _ d _ => d) (fun _ d _ => d) (fun d _ => d) (fun i o _ f => f i o) (fun _ _ d _ => d) (fun d _ => d) (fun _ _ _ _ _ d _ => d) (fun d _ => d) (fun _ d _ => d) (fun _ _ _ _ _ d _ => d) (fun d _ => d) (fun _ _ _ d _ => d) (fun d _ => d) (fun _ _ d _ => d) (fun _ _ d _ => d) (fun _ d _ => d) () (fun _ _ _ _ => ()) v d f
noncomputable def cBool (v : AV) (d : Res) (f : Bool → Res) : Res := AV.rec (motive_1 := fun _ => Res → (Bool → Res) → Res) (motive_2 := fun _ => Unit)
  (fun b _ f => f b) (fun _ _ d _ => d) (fun _ d _ => d) (fun d _ => d) (fun _ _ d _ => d) (fun _ _ d _ => d) (fun d _ => d) (fun _ _ _ _ _ d _ => d) (fun d _ => d) (fun _ d _ => d) (fun _ _ _ _ _ d _ => d) (fun d _ => d) (fun _ _ _ d _ => d) (fun d _ => d) (fun _ _ d _ => d) (fun _ _ d _ => d) (fun _ d _ => d) () (fun _ _ _ _ => ()) v d f
noncomputable def cTup (v : AV) (d : Res) (f : List AV → Res) : Res := AV.rec (motive_1 := fun _ => Res → (List AV → Res) → Res) (motive_2 := fun _ => Unit)
  (fun _ d _ => d) (fun _ _ d _ => d) (fun _ d _ => d) (fun d _ => d) (fun _ _ d _ => d) (fun _ _ d _ => d) (fun d _ => d) (fun _ _ _ _ _ d _ => d) (fun d _ => d) (fun _ d _ => d) (fun _ _ _ _ _ d _ => d) (fun d _ => d) (fun _ _ _ d _ => d) (fun d _ => d) (fun _ _ d _ => d) (fun l _ _ f => f l) (fun _ d _ => d) () (fun _ _ _ _ => ()) v d f
noncomputable def cSlice (v : AV) (d : Res) (f : Nat → Nat → Nat → Res) : Res := AV.rec (motive_1 := fun _ => Res → (Nat → Nat → Nat → Res) → Res) (motive_2 := fun _ => Unit)
  (fun _ d _ => d) (fun _ _ d _ => d) (fun _ d _ => d) (fun d _ => d) (fun _ _ d _ => d) (fun _ _ d _ => d) (fun d _ => d) (fun i o l _ _ _ f => f i o l) (fun d _ => d) (fun _ d _ => d) (fun _ _ _ _ _ d _ => d) (fun d _ => d) (fun _ _ _ d _ => d) (fun d _ => d) (fun _ _ d _ => d) (fun _ _ d _ => d) (fun _ d _ => d) () (fun _ _ _ _ => ()) v d f
noncomputable def cStr (v : AV) (d : Res) (f : List Nat → Res) : Res := AV.rec (motive_1 := fun _ => Res → (List Nat → Res) → Res) (motive_2 := fun _ => Unit)
  (fun _ d _ => d) (fun _ _ d _ => d) (fun s _ f => f s) (fun d _ => d) (fun _ _ d _ => d) (fun _ _ d _ => d) (fun d _ => d) (fun _ _ _ _ _ d _ => d) (fun d _ => d) (fun _ d _ => d) (fun _ _ _ _ _ d _ => d) (fun d _ => d) (fun _ _ _ d _ => d) (fun d _ => d) (fun _ _ d _ => d) (fun _ _ d _ => d) (fun _ d _ => d) () (fun _ _ _ _ => ()) v d f
noncomputable def cNat (n : Int) (d : Res) (f : Nat → Res) : Res := Int.rec (motive := fun _ => Res → (Nat → Res) → Res) (fun n _ f => f n) (fun _ d _ => d) n d f
noncomputable def c1 (vs : List AV) (d : Res) (f : AV → Res) : Res := List.rec (motive := fun _ => Res → (AV → Res) → Res) (fun d _ => d)
  (fun v l _ d f => List.rec (motive := fun _ => Res → AV → (AV → Res) → Res) (fun _ v f => f v) (fun _ _ _ d _ _ => d) l d v f) vs d f
noncomputable def c2 (vs : List AV) (d : Res) (f : AV → AV → Res) : Res := List.rec (motive := fun _ => Res → (AV → AV → Res) → Res) (fun d _ => d)
  (fun v l _ d f => c1 l d (f v)) vs d f
noncomputable def cOpt (o : Option AV) (d : Res) (f : AV → Res) : Res := Option.rec (motive := fun _ => Res → (AV → Res) → Res) (fun d _ => d) (fun v _ f => f v) o d f
noncomputable def cCells (o : Option AO) (d : Res) (f : T AV → Nat → Bool → Res) : Res := Option.rec (motive := fun _ => Res → (T AV → Nat → Bool → Res) → Res) (fun d _ => d)
  (fun o d f => AO.rec (motive := fun _ => Res → (T AV → Nat → Bool → Res) → Res) (fun c l b _ f => f c l b) (fun _ _ d _ => d) (fun _ _ d _ => d) (fun _ _ _ _ d _ => d) o d f) o d f
noncomputable def cIf (b : Bool) (x y : Res) : Res := Bool.rec (motive := fun _ => Res → Res → Res) (fun _ y => y) (fun x _ => x) b x y
noncomputable def kidx (k : IntKind) : Nat := IntKind.rec (motive := fun _ => Nat) 0 1 2 3 4 5 6 7 k
noncomputable def kmx (k : IntKind) : Nat := IntKind.rec (motive := fun _ => Nat) 127 32767 2147483647 9223372036854775807 255 65535 4294967295 18446744073709551615 k
def ret1 (v : AV) : Res := [(v, [])]

noncomputable def fAdd (k : IntKind) (a b : Nat) (s : Res) : Res := force (Nat.add a b) fun n => cIf (Nat.ble n (kmx k)) (ret1 (.int k (.ofNat n))) s
noncomputable def fSub (k : IntKind) (a b : Nat) (s : Res) : Res := cIf (Nat.ble b a) (cIf (Nat.ble a (kmx k)) (force (Nat.sub a b) fun n => ret1 (.int k (.ofNat n))) s) s
noncomputable def fMul (k : IntKind) (a b : Nat) (s : Res) : Res := force (Nat.mul a b) fun n => cIf (Nat.ble n (kmx k)) (ret1 (.int k (.ofNat n))) s
noncomputable def fEql (_ : IntKind) (a b : Nat) (_ : Res) : Res := ret1 (.bool (Nat.beq a b))
noncomputable def fNeq (_ : IntKind) (a b : Nat) (_ : Res) : Res := ret1 (.bool (Bool.not (Nat.beq a b)))
noncomputable def fLss (_ : IntKind) (a b : Nat) (_ : Res) : Res := ret1 (.bool (Nat.blt a b))
noncomputable def fLeq (_ : IntKind) (a b : Nat) (_ : Res) : Res := ret1 (.bool (Nat.ble a b))
noncomputable def fGtr (_ : IntKind) (a b : Nat) (_ : Res) : Res := ret1 (.bool (Nat.blt b a))
noncomputable def fGeq (_ : IntKind) (a b : Nat) (_ : Res) : Res := ret1 (.bool (Nat.ble b a))
noncomputable def fNo (_ : IntKind) (_ _ : Nat) (s : Res) : Res := s
noncomputable def fBin (b : BinOp) : IntKind → Nat → Nat → Res → Res := BinOp.rec (motive := fun _ => IntKind → Nat → Nat → Res → Res) fAdd fSub fMul fNo fNo fNo fNo fNo fNo fNo fNo fEql fNeq fLss fLeq fGtr fGeq b
noncomputable def xBin (b : BinOp) (_ : Gm) (ot : Ot) (_ : Get) (_ : Nat) (vs : List AV) : Res :=
  let s : Res := match sBin b vs with | some v => one v | none => ones (ot (.bin b) vs)
  c2 vs s fun x y => cInt x s fun k a => cInt y s fun k' c => cIf (Nat.beq (kidx k) (kidx k')) (cNat a s fun a => cNat c s fun c => fBin b k a c s) s
noncomputable def xMov (_ : Gm) (_ : Ot) (_ : Get) (_ : Nat) (vs : List AV) : Res := c1 vs [] ret1
noncomputable def xPick (_ : Gm) (_ : Ot) (_ : Get) (_ : Nat) (vs : List AV) : Res :=
  List.rec (motive := fun _ => Res) [] (fun x l _ => c2 l [] fun a b => cBool x [] fun c => Bool.rec (motive := fun _ => Res) (ret1 b) (ret1 a) c) vs
noncomputable def nth (l : List AV) (i : Nat) : Res := List.rec (motive := fun _ => Nat → Res) (fun _ => []) (fun v _ ih i => Nat.rec (motive := fun _ => Res) (ret1 v) (fun i _ => ih i) i) l i
noncomputable def xExt (i : Nat) (_ : Gm) (_ : Ot) (_ : Get) (_ : Nat) (vs : List AV) : Res := c1 vs [] fun v => cTup v [] fun l => nth l i
noncomputable def xConv (k : IntKind) (_ : Gm) (ot : Ot) (_ : Get) (_ : Nat) (vs : List AV) : Res :=
  let s : Res := match sConv k vs with | some v => one v | none => ones (ot (.conv k) vs)
  c1 vs s fun v => cInt v s fun _ n => cNat n s fun m => cIf (Nat.ble m (kmx k)) (ret1 (.int k (.ofNat m))) s
noncomputable def xLoad (n : Option Nat) (gm : Gm) (_ : Ot) (get : Get) (_ : Nat) (vs : List AV) : Res :=
  Option.rec (motive := fun _ => Res)
    (c1 vs [] fun v => cPtr v (ones (sLoad gm none get vs)) fun i o => cCells (get i) [] fun c _ _ => cOpt (c.get o) [] ret1)
    (fun n => c1 vs [] fun v => cPtr v (ones (sLoad gm (some n) get vs)) fun i o => cCells (get i) [] fun c _ _ => ones ((getRange c o n).map .agg)) n
noncomputable def xStore (n : Nat) (_ : Gm) (_ : Ot) (get : Get) (_ : Nat) (vs : List AV) : Res :=
  c2 vs [] fun p v => cPtr p [] fun i o => cCells (get i) [] fun c lo cl =>
    AV.rec (motive_1 := fun _ => Res) (motive_2 := fun _ => Unit) (fun _ => cIf (Nat.beq n 1) (cIf (Nat.ble (Nat.add o 1) lo) [(.tup [], [(i, some (.cells (putList c o [v]) lo cl))])] []) []) (fun _ _ => cIf (Nat.beq n 1) (cIf (Nat.ble (Nat.add o 1) lo) [(.tup [], [(i, some (.cells (putList c o [v]) lo cl))])] []) []) (fun _ => cIf (Nat.beq n 1) (cIf (Nat.ble (Nat.add o 1) lo) [(.tup [], [(i, some (.cells (putList c o [v]) lo cl))])] []) []) (cIf (Nat.beq n 1) (cIf (Nat.ble (Nat.add o 1) lo) [(.tup [], [(i, some (.cells (putList c o [v]) lo cl))])] []) []) (fun _ _ => cIf (Nat.beq n 1) (cIf (Nat.ble (Nat.add o 1) lo) [(.tup [], [(i, some (.cells (putList c o [v]) lo cl))])] []) []) (fun _ _ => cIf (Nat.beq n 1) (cIf (Nat.ble (Nat.add o 1) lo) [(.tup [], [(i, some (.cells (putList c o [v]) lo cl))])] []) []) (cIf (Nat.beq n 1) (cIf (Nat.ble (Nat.add o 1) lo) [(.tup [], [(i, some (.cells (putList c o [v]) lo cl))])] []) []) (fun _ _ _ _ _ => cIf (Nat.beq n 1) (cIf (Nat.ble (Nat.add o 1) lo) [(.tup [], [(i, some (.cells (putList c o [v]) lo cl))])] []) []) (cIf (Nat.beq n 1) (cIf (Nat.ble (Nat.add o 1) lo) [(.tup [], [(i, some (.cells (putList c o [v]) lo cl))])] []) []) (fun _ => cIf (Nat.beq n 1) (cIf (Nat.ble (Nat.add o 1) lo) [(.tup [], [(i, some (.cells (putList c o [v]) lo cl))])] []) []) (fun _ _ _ _ _ => cIf (Nat.beq n 1) (cIf (Nat.ble (Nat.add o 1) lo) [(.tup [], [(i, some (.cells (putList c o [v]) lo cl))])] []) []) (cIf (Nat.beq n 1) (cIf (Nat.ble (Nat.add o 1) lo) [(.tup [], [(i, some (.cells (putList c o [v]) lo cl))])] []) []) (fun _ _ _ => cIf (Nat.beq n 1) (cIf (Nat.ble (Nat.add o 1) lo) [(.tup [], [(i, some (.cells (putList c o [v]) lo cl))])] []) []) (cIf (Nat.beq n 1) (cIf (Nat.ble (Nat.add o 1) lo) [(.tup [], [(i, some (.cells (putList c o [v]) lo cl))])] []) []) (fun _ _ => sStore n get vs) (fun _ _ => sStore n get vs) (fun _ => cIf (Nat.beq n 1) (cIf (Nat.ble (Nat.add o 1) lo) [(.tup [], [(i, some (.cells (putList c o [v]) lo cl))])] []) []) () (fun _ _ _ _ => ()) v
noncomputable def xNilc (_ : Gm) (_ : Ot) (_ : Get) (_ : Nat) (vs : List AV) : Res := c1 vs [] fun v => cPtr v (ones (sNilc vs)) fun i o => ret1 (.ptr i o)
noncomputable def xFa (d : Nat) (_ : Gm) (_ : Ot) (_ : Get) (_ : Nat) (vs : List AV) : Res := c1 vs [] fun v => cPtr v (ones (sFa d vs)) fun i o => force (Nat.add o d) fun o => ret1 (.ptr i o)
noncomputable def xIa (es : Nat) (_ : Gm) (_ : Ot) (_ : Get) (_ : Nat) (vs : List AV) : Res := c2 vs [] fun v x => cSlice v [] fun i o l => cInt x [] fun _ n => cNat n [] fun n => cIf (Nat.blt n l) (force (Nat.add o (Nat.mul n es)) fun o => ret1 (.ptr i o)) []
noncomputable def xLen (kind : Nat) (_ : Gm) (ot : Ot) (get : Get) (_ : Nat) (vs : List AV) : Res :=
  let s : Res := match sLen kind get vs with | some v => one v | none => ones (ot (.len kind) vs)
  cIf (Nat.beq kind 1) (c1 vs s fun v => cSlice v s fun _ _ l => ret1 (.int .i64 (.ofNat l))) s
noncomputable def xIxs (_ : Gm) (_ : Ot) (_ : Get) (_ : Nat) (vs : List AV) : Res := ones (sIxs vs)
noncomputable def xUn (u : UnOp) (_ : Gm) (ot : Ot) (_ : Get) (_ : Nat) (vs : List AV) : Res := match sUn u vs with | some v => one v | none => ones (ot (.un u) vs)
noncomputable def xEqb (n : Bool) (_ : Gm) (_ : Ot) (_ : Get) (_ : Nat) (vs : List AV) : Res := ones (sEqb n vs)
noncomputable def xEqp (n : Bool) (_ : Gm) (_ : Ot) (_ : Get) (_ : Nat) (vs : List AV) : Res := ones (sEqp n vs)
noncomputable def xEqs (n : Bool) (_ : Gm) (_ : Ot) (_ : Get) (_ : Nat) (vs : List AV) : Res := ones (sEqs n vs)
noncomputable def xEqm (n : Bool) (_ : Gm) (_ : Ot) (_ : Get) (_ : Nat) (vs : List AV) : Res := ones (sEqm n vs)
noncomputable def xEqf (n : Bool) (_ : Gm) (_ : Ot) (_ : Get) (_ : Nat) (vs : List AV) : Res := ones (sEqf n vs)
noncomputable def xEqst (n : Bool) (k : List Nat) (_ : Gm) (_ : Ot) (_ : Get) (_ : Nat) (vs : List AV) : Res := ones (sEqst n k vs)
noncomputable def xS2b (gm : Gm) (ot : Ot) (get : Get) (nid : Nat) (vs : List AV) : Res := small gm ot .s2b get nid vs
noncomputable def xB2s (gm : Gm) (ot : Ot) (get : Get) (nid : Nat) (vs : List AV) : Res := small gm ot .b2s get nid vs
noncomputable def xS2s (gm : Gm) (ot : Ot) (get : Get) (nid : Nat) (vs : List AV) : Res := small gm ot .s2s get nid vs
noncomputable def xAlloc (z : List AV) (_ : Gm) (_ : Ot) (_ : Get) (nid : Nat) (vs : List AV) : Res := sAlloc z nid vs
noncomputable def xBox (_ : Gm) (_ : Ot) (_ : Get) (nid : Nat) (vs : List AV) : Res := sBox nid vs
noncomputable def xBuild (z : List AV) (p : List (Nat × Nat)) (_ : Gm) (_ : Ot) (_ : Get) (_ : Nat) (vs : List AV) : Res := ones (sBuild z p vs)
noncomputable def xBslice (z : List AV) (len : Nat) (es : Nat) (p : List (Nat × Nat)) (_ : Gm) (_ : Ot) (_ : Get) (nid : Nat) (vs : List AV) : Res := sBslice z len es p nid vs
noncomputable def xMki (t : Nat) (gm : Gm) (ot : Ot) (get : Get) (nid : Nat) (vs : List AV) : Res := small gm ot (.mki t) get nid vs
noncomputable def xMkf (f : Nat) (n : Nat) (_ : Gm) (_ : Ot) (_ : Get) (_ : Nat) (vs : List AV) : Res := ones (sMkf f n vs)
noncomputable def xMkm (_ : Gm) (_ : Ot) (_ : Get) (nid : Nat) (vs : List AV) : Res := sMkm nid vs
noncomputable def xMks (z : List AV) (es : Nat) (bytes : Nat) (_ : Gm) (_ : Ot) (_ : Get) (nid : Nat) (vs : List AV) : Res := sMks z es bytes nid vs
noncomputable def xSlc (es : Nat) (lo : Bool) (hi : Bool) (mx : Bool) (_ : Gm) (_ : Ot) (_ : Get) (_ : Nat) (vs : List AV) : Res := ones (sSlc es lo hi mx vs)
noncomputable def xSls (lo : Bool) (hi : Bool) (_ : Gm) (_ : Ot) (_ : Get) (_ : Nat) (vs : List AV) : Res := ones (sSls lo hi vs)
noncomputable def xSla (n : Nat) (es : Nat) (lo : Bool) (hi : Bool) (mx : Bool) (_ : Gm) (_ : Ot) (_ : Get) (_ : Nat) (vs : List AV) : Res := ones (sSla n es lo hi mx vs)
noncomputable def xIaa (len : Nat) (es : Nat) (_ : Gm) (_ : Ot) (_ : Get) (_ : Nat) (vs : List AV) : Res := ones (sIaa len es vs)
noncomputable def xIxa (len : Nat) (es : Nat) (agg : Bool) (_ : Gm) (_ : Ot) (_ : Get) (_ : Nat) (vs : List AV) : Res := ones (sIxa len es agg vs)
noncomputable def xFld (off : Nat) (size : Nat) (agg : Bool) (_ : Gm) (_ : Ot) (_ : Get) (_ : Nat) (vs : List AV) : Res := ones (sFld off size agg vs)
noncomputable def xLook (kk : Nat) (ok : Bool) (z : AV) (_ : Gm) (_ : Ot) (get : Get) (_ : Nat) (vs : List AV) : Res := ones (sLook kk ok z get vs)
noncomputable def xMset (kk : Nat) (_ : Gm) (_ : Ot) (get : Get) (_ : Nat) (vs : List AV) : Res := sMset kk get vs
noncomputable def xMdel (kk : Nat) (_ : Gm) (_ : Ot) (get : Get) (_ : Nat) (vs : List AV) : Res := sMdel kk get vs
noncomputable def xRng (s : Bool) (_ : Gm) (_ : Ot) (get : Get) (nid : Nat) (vs : List AV) : Res := sRng s get nid vs
noncomputable def xNxt (s : Bool) (_ : Gm) (_ : Ot) (get : Get) (_ : Nat) (vs : List AV) : Res := sNxt s get vs
noncomputable def xEnt (_ : Gm) (_ : Ot) (get : Get) (_ : Nat) (vs : List AV) : Res := ones (sEnt get vs)
noncomputable def xCap (_ : Gm) (_ : Ot) (_ : Get) (_ : Nat) (vs : List AV) : Res := ones (sCap vs)
noncomputable def xApp (es : Nat) (bytes : Nat) (z : Option (List AV)) (_ : Gm) (_ : Ot) (get : Get) (nid : Nat) (vs : List AV) : Res := sApp es bytes z get nid vs
noncomputable def xCpy (es : Nat) (_ : Gm) (_ : Ot) (get : Get) (_ : Nat) (vs : List AV) : Res := sCpy es get vs
noncomputable def xClr (z : List AV) (_ : Gm) (_ : Ot) (get : Get) (_ : Nat) (vs : List AV) : Res := sClr z get vs
noncomputable def xMin (gm : Gm) (ot : Ot) (get : Get) (nid : Nat) (vs : List AV) : Res := small gm ot .min get nid vs
noncomputable def xMax (gm : Gm) (ot : Ot) (get : Get) (nid : Nat) (vs : List AV) : Res := small gm ot .max get nid vs
noncomputable def xCall (_ : Gm) (_ : Ot) (_ : Get) (_ : Nat) (_ : List AV) : Res := []
noncomputable def xBad (_ : Gm) (_ : Ot) (_ : Get) (_ : Nat) (_ : List AV) : Res := []
noncomputable def smallF (gm : Gm) (ot : Ot) (op : MOp) (get : Get) (nid : Nat) (vs : List AV) : Res :=
  MOp.rec (motive := fun _ => Gm → Ot → Get → Nat → List AV → Res) xMov xPick xExt xBin xEqb xEqp xEqs xEqm xEqf xEqst xUn xConv xS2b xB2s xS2s xAlloc xBox xBuild xBslice xLoad xStore xNilc xMki xMkf xMkm xMks xSlc xSls xSla xFa xIa xIaa xIxs xIxa xFld xLook xMset xMdel xRng xNxt xEnt xLen xCap xApp xCpy xClr xMin xMax xCall xBad op gm ot get nid vs
end Go.Hx
