/- The executor's operations: what each yields of its operands' values and of the objects that it looks at. Nothing here is proved. -/
import Derived.Test.YtdbdebcakemmbaaGreatDoorHxBase
namespace Go.Hx
open Go

/-- An operation as the executor has it. -/
inductive MOp where
  | mov
  | pick
  | ext (i : Nat)
  | bin (op : BinOp)
  | eqb (neg : Bool)
  | eqp (neg : Bool)
  | eqs (neg : Bool)
  | eqm (neg : Bool)
  | eqf (neg : Bool)
  | eqst (neg : Bool) (ks : List Nat)
  | un (op : UnOp)
  | conv (k : IntKind)
  | s2b
  | b2s
  | s2s
  | alloc (z : List AV)
  | box
  | build (z : List AV) (parts : List (Nat × Nat))
  | bslice (z : List AV) (len es : Nat) (parts : List (Nat × Nat))
  | load (n : Option Nat)
  | store (n : Nat)
  | nilc
  | mki (t : Nat)
  | mkf (f nfirst : Nat)
  | mkm
  | mks (z : List AV) (es bytes : Nat)
  | slc (es : Nat) (lo hi mx : Bool)
  | sls (lo hi : Bool)
  | sla (n es : Nat) (lo hi mx : Bool)
  | fa (off : Nat)
  | ia (es : Nat)
  | iaa (len es : Nat)
  | ixs
  | ixa (len es : Nat) (agg : Bool)
  | fld (off size : Nat) (agg : Bool)
  | look (kk : Nat) (ok : Bool) (z : AV)
  | mset (kk : Nat)
  | mdel (kk : Nat)
  | rng (str : Bool)
  | nxt (str : Bool)
  | ent
  | len (kind : Nat)
  | cap
  | app (es bytes : Nat) (zeros : Option (List AV))
  | cpy (es : Nat)
  | clr (z : List AV)
  | min
  | max
  | call
  | bad

/-! ### Numbers -/
/-- 'k n', with 'n' worked out first. -/
noncomputable def force {R : Type} (n : Nat) (k : Nat → R) : R := Nat.rec (motive := fun _ => R) (k 0) (fun m _ => k (Nat.succ m)) n
theorem force_eq {R : Type} (n : Nat) (k : Nat → R) : force n k = k n := by cases n <;> rfl

def kmax : IntKind → Nat
  | .i8 => 127 | .i16 => 32767 | .i32 => 2147483647 | .i64 => 9223372036854775807
  | .u8 => 255 | .u16 => 65535 | .u32 => 4294967295 | .u64 => 18446744073709551615
def ksigned : IntKind → Bool
  | .i8 | .i16 | .i32 | .i64 => true
  | _ => false
/-- wrap, the common case first. -/
def wrapF (k : IntKind) (n : Int) : Int :=
  match n with
  | .ofNat m => if Nat.ble m (kmax k) then .ofNat m else k.wrap n
  | .negSucc m => if ksigned k && Nat.ble m (kmax k) then .negSucc m else k.wrap n

def kbeq (a b : IntKind) : Bool := Nat.beq a.ctorIdx b.ctorIdx

def intBin (op : BinOp) (k : IntKind) (x y : Int) : Option AV :=
  match op with
  | .add => some (.int k (wrapF k (Int.add x y)))
  | .sub => some (.int k (wrapF k (Int.sub x y)))
  | .mul => some (.int k (wrapF k (Int.mul x y)))
  | .quo => if y = 0 then none else some (.int k (wrapF k (x.tdiv y)))
  | .rem => if y = 0 then none else some (.int k (x.tmod y))
  | .and => match x, y with
    | .ofNat a, .ofNat b => if Nat.ble a (kmax k) && Nat.ble b (kmax k) then some (.int k (.ofNat (Nat.land a b))) else none
    | _, _ => none
  | .or => match x, y with
    | .ofNat a, .ofNat b => if Nat.ble a (kmax k) && Nat.ble b (kmax k) then some (.int k (k.wrap (.ofNat (Nat.lor a b)))) else none
    | _, _ => none
  | .xor => match x, y with
    | .ofNat a, .ofNat b => if Nat.ble a (kmax k) && Nat.ble b (kmax k) then some (.int k (k.wrap (.ofNat (Nat.xor a b)))) else none
    | _, _ => none
  | .andNot => match x, y with
    | .ofNat a, .ofNat b => if Nat.ble a (kmax k) && Nat.ble b (kmax k) then some (.int k (.ofNat (Nat.land a (2 ^ k.bits - 1 - b)))) else none
    | _, _ => none
  | .eql => some (.bool (decide (x = y)))
  | .neq => some (.bool (!decide (x = y)))
  | .lss => some (.bool (decide (x < y)))
  | .leq => some (.bool (decide (x ≤ y)))
  | .gtr => some (.bool (decide (y < x)))
  | .geq => some (.bool (decide (y ≤ x)))
  | _ => none

def shiftBin (op : BinOp) (k : IntKind) (x y : Int) : Option AV :=
  if y < 0 then none else
  match op with
  | .shl => some (.int k (wrapF k (x * 2 ^ (Nat.min y.toNat k.bits))))
  | .shr => some (.int k (x.fdiv (2 ^ (Nat.min y.toNat k.bits))))
  | _ => none

/-! ### Texts -/
def lbeq : List Nat → List Nat → Bool
  | [], [] => true
  | a :: as, b :: bs => Nat.beq a b && lbeq as bs
  | _, _ => false
def lless : List Nat → List Nat → Bool
  | _, [] => false
  | [], _ :: _ => true
  | a :: x, b :: y => Nat.blt a b || (Nat.beq a b && lless x y)
def strBin (op : BinOp) (x y : List Nat) : Option AV :=
  match op with
  | .add => if Nat.ble (x.length + y.length) 9223372036854775807 then some (.str (x ++ y)) else none
  | .eql => some (.bool (lbeq x y))
  | .neq => some (.bool (!lbeq x y))
  | .lss => some (.bool (lless x y))
  | .leq => some (.bool (lless x y || lbeq x y))
  | .gtr => some (.bool (!(lless x y || lbeq x y)))
  | .geq => some (.bool (!lless x y))
  | _ => none

def isShift : BinOp → Bool
  | .shl | .shr => true
  | _ => false

def one (v : AV) : List (AV × Ws) := [(v, [])]
def ones (v : Option AV) : List (AV × Ws) := match v with | some v => [(v, [])] | none => []

def sBin (op : BinOp) : List AV → Option AV
  | [.int k a, .int k' b] => if isShift op then shiftBin op k a b else if kbeq k k' then intBin op k a b else none
  | [.str a, .str b] => strBin op a b
  | _ => none

def bx (neg b : Bool) : AV := .bool (if neg then !b else b)

def sEqb (neg : Bool) : List AV → Option AV
  | [.bool a, .bool b] => some (bx neg (if a then b else !b))
  | _ => none
def sEqp (neg : Bool) : List AV → Option AV
  | [.nilp, .nilp] => some (bx neg true)
  | [.ptr _ _, .nilp] => some (bx neg false)
  | [.nilp, .ptr _ _] => some (bx neg false)
  | [.gptr _ _, .nilp] => some (bx neg false)
  | [.nilp, .gptr _ _] => some (bx neg false)
  | _ => none
def sEqs (neg : Bool) : List AV → Option AV
  | [.nils, .nils] => some (bx neg true)
  | [.slice _ _ _ _ _, .nils] => some (bx neg false)
  | [.nils, .slice _ _ _ _ _] => some (bx neg false)
  | _ => none
def sEqm (neg : Bool) : List AV → Option AV
  | [.nilm, .nilm] => some (bx neg true)
  | [.map _, .nilm] => some (bx neg false)
  | [.nilm, .map _] => some (bx neg false)
  | _ => none
def sEqf (neg : Bool) : List AV → Option AV
  | [.nilf, .nilf] => some (bx neg true)
  | [.func _ _ _, .nilf] => some (bx neg false)
  | [.nilf, .func _ _ _] => some (bx neg false)
  | _ => none
/-- Numbers, texts, bools: one value against another of its kind. -/
def flatEq : AV → AV → Option Bool
  | .int k a, .int k' b => if kbeq k k' then some (decide (a = b)) else none
  | .str a, .str b => some (lbeq a b)
  | .bool a, .bool b => some (if a then b else !b)
  | _, _ => none
/-- Kinds of flat values: 0 a number, 1 a text, 2 a bool. -/
def isKind : Nat → AV → Bool
  | 0, .int _ _ => true
  | 1, .str _ => true
  | 2, .bool _ => true
  | _, _ => false
def flatEqs : List Nat → List AV → List AV → Option Bool
  | [], [], [] => some true
  | k :: ks, a :: as, b :: bs => if isKind k a then match flatEq a b with
    | some true => flatEqs ks as bs
    | some false => some false
    | none => none
    else none
  | _, _, _ => none
def sEqst (neg : Bool) (ks : List Nat) : List AV → Option AV
  | [.agg a, .agg b] => if Nat.beq a.length ks.length && Nat.beq b.length ks.length then (flatEqs ks a b).map (bx neg) else none
  | _ => none
def sUn (op : UnOp) : List AV → Option AV
  | [.bool b] => match op with
    | .not => some (.bool (!b))
    | _ => none
  | [.int k n] => match op with
    | .neg => some (.int k (wrapF k (Int.sub 0 n)))
    | _ => none
  | _ => none
def sConv (k : IntKind) : List AV → Option AV
  | [.int _ n] => some (.int k (wrapF k n))
  | _ => none

/-! ### Aggregates -/
def cellsOf : AV → List AV
  | .agg cs => cs
  | v => [v]
def allOne : List AV → Bool
  | [] => true
  | v :: vs => v.one && allOne vs
/-- A list as a trie: numbers i and up. -/
noncomputable def ofListFrom (l : List AV) (i : Nat) (t : T AV) : T AV :=
  List.rec (motive := fun _ => Nat → T AV → T AV) (fun _ t => t) (fun v _ ih i t => force i fun i => T.put (i + 1) t i (some v) fun t => ih (Nat.succ i) t) l i t
noncomputable def ofList (l : List AV) : T AV := ofListFrom l 0 .nil
/-- n cells from a place on. -/
noncomputable def getRange (t : T AV) (off n : Nat) : Option (List AV) :=
  Nat.rec (motive := fun _ => Nat → Option (List AV)) (fun _ => some [])
    (fun _ ih off => match t.get off, ih (off + 1) with
      | some v, some l => some (v :: l)
      | _, _ => none) n off
def putAt (l : List AV) (off : Nat) (p : List AV) : List AV := l.take off ++ p ++ l.drop (off + p.length)
def fillIn : List AV → List (Nat × Nat) → List AV → Option (List AV)
  | cells, [], [] => some cells
  | cells, (off, size) :: ps, v :: vs =>
    let c := cellsOf v
    if Nat.beq c.length size && Nat.ble (off + size) cells.length && allOne c then fillIn (putAt cells off c) ps vs else none
  | _, _, _ => none
def agg1 : Bool → List AV → Option AV
  | true, l => some (.agg l)
  | false, [v] => some v
  | false, _ => none
def rep (n : Nat) (z : List AV) : List AV := Nat.rec [] (fun _ ih => z ++ ih) n

/-! ### Operations that make an object -/
noncomputable def sAlloc (z : List AV) (nid : Nat) : List AV → List (AV × Ws)
  | [] => if allOne z then [(.ptr nid 0, [(nid, some (.cells (ofList z) z.length true))])] else []
  | _ => []
noncomputable def sBox (nid : Nat) : List AV → List (AV × Ws)
  | [v] => let c := cellsOf v; if allOne c then [(.ptr nid 0, [(nid, some (.cells (ofList c) c.length true))])] else []
  | _ => []
def sBuild (z : List AV) (parts : List (Nat × Nat)) (vs : List AV) : Option AV := (fillIn z parts vs).map .agg
noncomputable def sBslice (z : List AV) (len es : Nat) (parts : List (Nat × Nat)) (nid : Nat) (vs : List AV) : List (AV × Ws) :=
  match fillIn (rep len z) parts vs with
  | some c => if Nat.beq c.length (len * es) && allOne c then [(.slice nid 0 len es (some len), [(nid, some (.cells (ofList c) c.length true))])] else []
  | none => []

/-! ### Memory -/
def gRange (gm : Nat → Nat → Option AV) (g off n : Nat) : Option (List AV) :=
  match n with
  | 0 => some []
  | n + 1 => match gm g off, gRange gm g (off + 1) n with
    | some v, some l => some (v :: l)
    | _, _ => none
noncomputable def sLoad (gm : Nat → Nat → Option AV) (n : Option Nat) (get : Nat → Option AO) : List AV → Option AV
  | [.ptr id off] => match get id with
    | some (.cells cs _ _) => match n with
      | none => cs.get off
      | some n => (getRange cs off n).map .agg
    | _ => none
  | [.gptr g off] => match n with
    | none => gm g off
    | some n => (gRange gm g off n).map .agg
  | _ => none
noncomputable def putList (t : T AV) (off : Nat) (l : List AV) : T AV := ofListFrom l off t
noncomputable def sStore (n : Nat) (get : Nat → Option AO) : List AV → List (AV × Ws)
  | [.ptr id off, v] => match get id with
    | some (.cells cs lo closed) =>
      let c := cellsOf v
      if Nat.beq c.length n && Nat.ble (off + n) lo && allOne c then [(.tup [], [(id, some (.cells (putList cs off c) lo closed))])] else []
    | _ => []
  | _ => []
def sNilc : List AV → Option AV
  | [.ptr id off] => some (.ptr id off)
  | [.gptr g off] => some (.gptr g off)
  | [.func f a c] => some (.func f a c)
  | _ => none
def sMkf (f nfirst : Nat) (vs : List AV) : Option AV := if Nat.ble nfirst vs.length then some (.func f (vs.take nfirst) (vs.drop nfirst)) else none
def sMkm (nid : Nat) : List AV → List (AV × Ws)
  | [] => [(.map nid, [(nid, some (.map [] 0))])]
  | [.int _ _] => [(.map nid, [(nid, some (.map [] 0))])]
  | _ => []
noncomputable def sMks (z : List AV) (es bytes nid : Nat) : List AV → List (AV × Ws)
  | [.int _ (.ofNat l), .int _ (.ofNat c)] =>
    if Nat.ble l c && Nat.ble c 4294967296 && Nat.ble (bytes * c) 281474976710656 && allOne z && Nat.beq z.length es && Nat.ble 1 es then
      [(.slice nid 0 l es (some c), [(nid, some (.cells (ofList (rep c z)) (c * es) true))])]
    else []
  | _ => []

/-! ### Slices -/
def natOf : AV → Option Nat
  | .int _ (.ofNat n) => some n
  | _ => none
/-- The bounds that are there, out of the operands: low, high, max. -/
def bounds (lo hi mx : Bool) (vs : List AV) : Option (Option Nat × Option Nat × Option Nat) :=
  let take (b : Bool) (vs : List AV) : Option (Option Nat × List AV) :=
    if b then match vs with
      | v :: vs => (natOf v).map fun n => (some n, vs)
      | [] => none
    else some (none, vs)
  match take lo vs with
  | none => none
  | some (l, vs) => match take hi vs with
    | none => none
    | some (h, vs) => match take mx vs with
      | some (m, []) => some (l, h, m)
      | _ => none
def sSlc (es : Nat) (lo hi mx : Bool) : List AV → Option AV
  | .nils :: vs => match bounds lo hi mx vs with
    | some (l, h, m) => if Nat.beq (l.getD 0) 0 && Nat.beq (h.getD 0) 0 && Nat.beq (m.getD 0) 0 && (!mx || hi) then some .nils else none
    | none => none
  | .slice id off len es' cap :: vs => match bounds lo hi mx vs with
    | none => none
    | some (l, h, m) =>
      if !(Nat.beq es es') then none else
      let l := l.getD 0
      match cap with
      | some c =>
        let m' := m.getD c
        let h' := h.getD len
        if Nat.ble m' c && Nat.ble h' m' && Nat.ble l h' && (!mx || hi) then some (.slice id (if Nat.beq m' l then off else off + l * es) (h' - l) es (some (m' - l))) else none
      | none => match m with
        | none =>
          let h' := h.getD len
          if Nat.ble h' len && Nat.ble l h' then some (.slice id (off + l * es) (h' - l) es none) else none
        | some m' =>
          let h' := h.getD len
          if Nat.ble m' len && Nat.ble h' m' && Nat.ble l h' && hi then some (.slice id (if Nat.beq m' l then off else off + l * es) (h' - l) es (some (m' - l))) else none
  | _ => none
def sSls (lo hi : Bool) : List AV → Option AV
  | .str s :: vs => match bounds lo hi false vs with
    | some (l, h, _) =>
      let n := s.length
      let h' := h.getD n
      let l := l.getD 0
      if Nat.ble h' n && Nat.ble l h' then some (.str ((s.take h').drop l)) else none
    | none => none
  | _ => none
def sSla (n es : Nat) (lo hi mx : Bool) : List AV → Option AV
  | .ptr id off :: vs => match bounds lo hi mx vs with
    | some (l, h, m) =>
      let m' := m.getD n
      let h' := h.getD n
      let l := l.getD 0
      if Nat.ble m' n && Nat.ble h' m' && Nat.ble l h' && (!mx || hi) then some (.slice id (if Nat.beq m' l then off else off + l * es) (h' - l) es (some (m' - l))) else none
    | none => none
  | _ => none
def sFa (d : Nat) : List AV → Option AV
  | [.ptr id off] => some (.ptr id (off + d))
  | [.gptr g off] => some (.gptr g (off + d))
  | _ => none
def sIa (es : Nat) : List AV → Option AV
  | [.slice id off len _ _, .int _ (.ofNat i)] => if Nat.blt i len then some (.ptr id (off + i * es)) else none
  | _ => none
def sIaa (len es : Nat) : List AV → Option AV
  | [.ptr id off, .int _ (.ofNat i)] => if Nat.blt i len then some (.ptr id (off + i * es)) else none
  | [.gptr g off, .int _ (.ofNat i)] => if Nat.blt i len then some (.gptr g (off + i * es)) else none
  | _ => none
def sIxs : List AV → Option AV
  | [.str s, .int _ (.ofNat i)] => match s[i]? with
    | some b => some (.int .u8 (.ofNat b))
    | none => none
  | _ => none
def sIxa (len es : Nat) (agg : Bool) : List AV → Option AV
  | [.agg cs, .int _ (.ofNat i)] => if Nat.blt i len && Nat.ble ((i + 1) * es) cs.length then agg1 agg ((cs.drop (i * es)).take es) else none
  | _ => none
def sFld (off size : Nat) (agg : Bool) : List AV → Option AV
  | [.agg cs] => if Nat.ble (off + size) cs.length then agg1 agg ((cs.drop off).take size) else none
  | _ => none

/-! ### Maps -/
/-- Where a key is, and its value; none: a key of another kind was met. -/
def find (k : AV) : List (AV × AV × Nat) → Nat → Option (Option (Nat × AV))
  | [], _ => some none
  | (k', v, _) :: es, i => match flatEq k k' with
    | some true => some (some (i, v))
    | some false => find k es (i + 1)
    | none => none
def sLook (kk : Nat) (ok : Bool) (z : AV) (get : Nat → Option AO) : List AV → Option AV
  | [.nilm, k] => if isKind kk k then some (if ok then .tup [z, .bool false] else z) else none
  | [.map id, k] => if !isKind kk k then none else match get id with
    | some (.map es _) => match find k es 0 with
      | some (some (_, v)) => some (if ok then .tup [v, .bool true] else v)
      | some none => some (if ok then .tup [z, .bool false] else z)
      | none => none
    | _ => none
  | _ => none
def setVal : List (AV × AV × Nat) → Nat → AV → AV → List (AV × AV × Nat)
  | [], _, _, _ => []
  | (_, _, b) :: es, 0, k, v => (k, v, b) :: es
  | e :: es, i + 1, k, v => e :: setVal es i k v
noncomputable def sMset (kk : Nat) (get : Nat → Option AO) : List AV → List (AV × Ws)
  | [.map id, k, v] => if !isKind kk k then [] else match get id with
    | some (.map es clock) => match find k es 0 with
      | some (some (i, _)) => [(.tup [], [(id, some (.map (setVal es i k v) clock))])]
      | some none => force clock fun c => [(.tup [], [(id, some (.map (es ++ [(k, v, c)]) (c + 1)))])]
      | none => []
    | _ => []
  | _ => []
def delAt : List (AV × AV × Nat) → Nat → List (AV × AV × Nat)
  | [], _ => []
  | _ :: es, 0 => es
  | e :: es, i + 1 => e :: delAt es i
def sMdel (kk : Nat) (get : Nat → Option AO) : List AV → List (AV × Ws)
  | [.nilm, k] => if isKind kk k then [(.tup [], [])] else []
  | [.map id, k] => if !isKind kk k then [] else match get id with
    | some (.map es clock) => match find k es 0 with
      | some (some (i, _)) => [(.tup [], [(id, some (.map (delAt es i) clock))])]
      | some none => [(.tup [], [])]
      | none => []
    | _ => []
  | _ => []

/-! ### Iterators -/
def sRng (str : Bool) (get : Nat → Option AO) (nid : Nat) : List AV → List (AV × Ws)
  | [.str s] => if str then [(.ptr nid 0, [(nid, some (.siter s 0))])] else []
  | [.nilm] => if str then [] else [(.ptr nid 0, [(nid, some (.miter none 0 [] 0))])]
  | [.map id] => if str then [] else match get id with
    | some (.map _ clock) => [(.ptr nid 0, [(nid, some (.miter (some id) clock [] clock))])]
    | _ => []
  | _ => []
def memN (n : Nat) : List Nat → Bool
  | [] => false
  | m :: ms => Nat.beq n m || memN n ms
def outIt (e : AV × AV × Nat) (it m since : Nat) (seen : List Nat) (clock : Nat) : AV × Ws :=
  (.tup [.bool true, e.1, e.2.1], [(it, some (.miter (some m) since (seen ++ [e.2.2]) clock))])
def allGe (last : Nat) : List (AV × AV × Nat) → Bool
  | [] => true
  | e :: es => Nat.ble last e.2.2 && allGe last es
def leftOf (seen : List Nat) : List (AV × AV × Nat) → List (AV × AV × Nat)
  | [] => []
  | e :: es => if memN e.2.2 seen then leftOf seen es else e :: leftOf seen es
def anyLt (since : Nat) : List (AV × AV × Nat) → Bool
  | [] => false
  | e :: es => Nat.blt e.2.2 since || anyLt since es
def stepsOf (it m since : Nat) (seen : List Nat) (clock : Nat) : List (AV × AV × Nat) → List (AV × Ws)
  | [] => []
  | e :: es => outIt e it m since seen clock :: stepsOf it m since seen clock es
def sNxt (str : Bool) (get : Nat → Option AO) : List AV → List (AV × Ws)
  | [.ptr it 0] => match get it with
    | some (.siter s pos) => if !str then [] else
        match s.drop pos with
        | [] => [(.tup [.bool false], [])]
        | c :: _ => if Nat.blt c 128 then [(.tup [.bool true, .int .i64 (.ofNat pos), .int .i32 (.ofNat c)], [(it, some (.siter s (pos + 1)))])]
          else
            let d := Utf8.decode ⟨(s.map UInt8.ofNat).toArray⟩ pos
            [(.tup [.bool true, .int .i64 (.ofNat pos), .int .i32 d.1], [(it, some (.siter s (pos + d.2)))])]
    | some (.miter none _ _ _) => if str then [] else [(.tup [.bool false], [])]
    | some (.miter (some m) since seen last) => if str then [] else match get m with
      | some (.map es clock) =>
        if !(seen.isEmpty) && !(es.isEmpty) && allGe last es then [] else
        let left := leftOf seen es
        (if anyLt since left then [] else [(.tup [.bool false], [])]) ++ stepsOf it m since seen clock left
      | _ => []
    | _ => []
  | _ => []
def lastN : List Nat → Option Nat
  | [] => none
  | [n] => some n
  | _ :: ns => lastN ns
def byBorn (n : Nat) : List (AV × AV × Nat) → Option (AV × AV)
  | [] => none
  | e :: es => if Nat.beq e.2.2 n then some (e.1, e.2.1) else byBorn n es
def sEnt (get : Nat → Option AO) : List AV → Option AV
  | [.ptr it 0] => match get it with
    | some (.miter (some m) _ seen stepped) => match lastN seen, get m with
      | some stamp, some (.map es clock) => if Nat.beq clock stepped then (byBorn stamp es).map fun kv => .tup [kv.1, kv.2] else none
      | _, _ => none
    | _ => none
  | _ => none

/-! ### The built-in functions -/
def sLen (kind : Nat) (get : Nat → Option AO) : List AV → Option AV
  | [.str s] => if Nat.beq kind 0 then some (.int .i64 (.ofNat s.length)) else none
  | [.nils] => if Nat.beq kind 1 then some (.int .i64 0) else none
  | [.slice _ _ len _ _] => if Nat.beq kind 1 then some (.int .i64 (.ofNat len)) else none
  | [.nilm] => if Nat.beq kind 2 then some (.int .i64 0) else none
  | [.map id] => if Nat.beq kind 2 then match get id with
    | some (.map es _) => some (.int .i64 (.ofNat es.length))
    | _ => none
    else none
  | _ => none
def sCap : List AV → Option AV
  | [.nils] => some (.int .i64 0)
  | [.slice _ _ _ _ (some c)] => some (.int .i64 (.ofNat c))
  | _ => none
def natsOf : List Nat → List AV
  | [] => []
  | n :: ns => .int .u8 (.ofNat n) :: natsOf ns
def bytesOf : List AV → Option (List Nat)
  | [] => some []
  | .int .u8 (.ofNat n) :: vs => if Nat.blt n 256 then (bytesOf vs).map (n :: ·) else none
  | _ => none
/-- The cells of a source of append or copy, the first n elements: and how many elements it has. -/
noncomputable def srcCells (es n : Nat) (get : Nat → Option AO) : AV → Option (List AV)
  | .nils => some []
  | .str s => some (natsOf (s.take n))
  | .slice id off _ _ _ => match get id with
    | some (.cells cs _ _) => getRange cs off (n * es)
    | _ => none
  | _ => none
def srcLen : AV → Option Nat
  | .nils => some 0
  | .str s => some s.length
  | .slice _ _ len _ _ => some len
  | _ => none
/-- The cells to be appended, and how many elements they are. -/
noncomputable def appSrc (es : Nat) (zeros : Option (List AV)) (get : Nat → Option AO) (x : AV) : Option (Nat × List AV) :=
  match zeros with
  | some z => match x with
    | .int _ (.ofNat n) => if Nat.ble n 4294967296 then some (n, rep n z) else none
    | _ => none
  | none => match srcLen x with
    | some n => (srcCells es n get x).map fun l => (n, l)
    | none => none
/-- What is known of a row from a place on, up to a length: moved to its head. -/
noncomputable def moved (t : T AV) (off n : Nat) : T AV :=
  Nat.rec (motive := fun _ => Nat → T AV) (fun _ => .nil)
    (fun m ih k => match t.get (off + m) with
      | some v => T.put (m + 1) (ih k) m (some v) id
      | none => ih k) n 0
noncomputable def sApp (es bytes : Nat) (zeros : Option (List AV)) (get : Nat → Option AO) (nid : Nat) : List AV → List (AV × Ws)
  | [s, x] => match appSrc es zeros get x with
    | none => []
    | some (m, new) =>
      if !(Nat.beq new.length (m * es)) || !(allOne new) || !(Nat.ble 1 es) || !(Nat.ble 1 bytes) then [] else
      match s with
      | .nils =>
        if Nat.beq m 0 then [(.nils, [])] else
        if !(Nat.ble (m * bytes) 140737488355328) then [] else
        [(.slice nid 0 m es none, [(nid, some (.cells (ofList new) (m * es) false))])]
      | .slice id off len es' cap =>
        if !(Nat.beq es es') then [] else
        if Nat.beq m 0 then [(.slice id off len es cap, [])] else
        if !(Nat.ble ((len + m) * bytes) 140737488355328) then [] else
        match get id with
        | some (.cells cs lo closed) =>
          let fits : Bool := match cap with
            | some c => Nat.ble (len + m) c && Nat.ble (off + (len + m) * es) lo
            | none => Nat.ble (off + (len + m) * es) lo
          let grows : Bool := match cap with
            | some c => Nat.blt c (len + m)
            | none => closed && Nat.blt lo (off + (len + m) * es)
          if fits then [(.slice id off (len + m) es cap, [(id, some (.cells (putList cs (off + len * es) new) lo closed))])]
          else if !(Nat.ble (off + len * es) lo) then []
          else
            let base := if Nat.beq off 0 && Nat.beq lo (len * es) then cs else moved cs off (len * es)
            let row : AO := .cells (putList base (len * es) new) ((len + m) * es) false
            if grows then [(.slice nid 0 (len + m) es none, [(nid, some row)])]
            else match cap with
              | some _ => []
              | none => [(.slice nid 0 (len + m) es none, [(id, none), (nid, some row)])]
        | _ => []
      | _ => []
  | _ => []
noncomputable def sCpy (es : Nat) (get : Nat → Option AO) : List AV → List (AV × Ws)
  | [.nils, x] => match srcLen x with
    | some _ => [(.int .i64 0, [])]
    | none => []
  | [.slice id off len es' _, x] => match srcLen x, get id with
    | some k, some (.cells cs lo closed) =>
      let n := Nat.min k len
      match srcCells es n get x with
      | some l => if Nat.beq es es' && Nat.beq l.length (n * es) && allOne l && Nat.ble (off + n * es) lo then
          [(.int .i64 (.ofNat n), [(id, some (.cells (putList cs off l) lo closed))])] else []
      | none => []
    | _, _ => []
  | _ => []
noncomputable def sClr (z : List AV) (get : Nat → Option AO) : List AV → List (AV × Ws)
  | [.nils] => [(.tup [], [])]
  | [.slice id off len es _] => match get id with
    | some (.cells cs lo closed) =>
      if Nat.beq len 0 then [(.tup [], [])] else
      if Nat.beq z.length es && allOne z && Nat.ble (off + len * es) lo then [(.tup [], [(id, some (.cells (putList cs off (rep len z)) lo closed))])] else []
    | _ => []
  | _ => []
def mm2 (mx : Bool) : AV → AV → Option AV
  | .int k a, .int _ b => some (.int k (if mx then (if a < b then b else a) else (if b < a then b else a)))
  | _, _ => none
def mmF (mx : Bool) : List AV → AV → Option AV
  | [], acc => some acc
  | b :: rest, acc => match mm2 mx acc b with
    | some c => mmF mx rest c
    | none => none
def minmax (mx : Bool) : List AV → Option AV
  | v :: rest => mmF mx rest v
  | [] => none

/-- All of it: what an operation may yield, and what it writes. Empty: not known. -/
noncomputable def small (gm : Nat → Nat → Option AV) (ot : MOp → List AV → Option AV) (op : MOp) (get : Nat → Option AO) (nid : Nat) (vs : List AV) : List (AV × Ws) :=
  match op with
  | .mov => match vs with | [v] => one v | _ => []
  | .pick => match vs with | [.bool c, a, b] => one (if c then a else b) | _ => []
  | .ext i => match vs with | [.tup l] => ones l[i]? | _ => []
  | .bin b => match sBin b vs with | some v => one v | none => ones (ot op vs)
  | .eqb n => ones (sEqb n vs)
  | .eqp n => ones (sEqp n vs)
  | .eqs n => ones (sEqs n vs)
  | .eqm n => ones (sEqm n vs)
  | .eqf n => ones (sEqf n vs)
  | .eqst n k => ones (sEqst n k vs)
  | .un u => match sUn u vs with | some v => one v | none => ones (ot op vs)
  | .conv k => match sConv k vs with | some v => one v | none => ones (ot op vs)
  | .s2b => match vs with
    | [.str s] => [(.slice nid 0 s.length 1 none, [(nid, some (.cells (ofList (natsOf s)) s.length false))])]
    | _ => []
  | .b2s => match vs with
    | [.nils] => one (.str [])
    | [.slice id off len _ _] => match get id with
      | some (.cells cs _ _) => match getRange cs off len with
        | some l => ones ((bytesOf l).map .str)
        | none => []
      | _ => []
    | _ => []
  | .s2s => match vs with | [.str s] => one (.str s) | _ => []
  | .alloc z => sAlloc z nid vs
  | .box => sBox nid vs
  | .build z p => ones (sBuild z p vs)
  | .bslice z len es p => sBslice z len es p nid vs
  | .load n => ones (sLoad gm n get vs)
  | .store n => sStore n get vs
  | .nilc => ones (sNilc vs)
  | .mki t => match vs with | [v] => one (.iface t v) | _ => []
  | .mkf f n => ones (sMkf f n vs)
  | .mkm => sMkm nid vs
  | .mks z es bytes => sMks z es bytes nid vs
  | .slc es lo hi mx => ones (sSlc es lo hi mx vs)
  | .sls lo hi => ones (sSls lo hi vs)
  | .sla n es lo hi mx => ones (sSla n es lo hi mx vs)
  | .fa d => ones (sFa d vs)
  | .ia es => ones (sIa es vs)
  | .iaa len es => ones (sIaa len es vs)
  | .ixs => ones (sIxs vs)
  | .ixa len es agg => ones (sIxa len es agg vs)
  | .fld off size agg => ones (sFld off size agg vs)
  | .look kk ok z => ones (sLook kk ok z get vs)
  | .mset kk => sMset kk get vs
  | .mdel kk => sMdel kk get vs
  | .rng s => sRng s get nid vs
  | .nxt s => sNxt s get vs
  | .ent => ones (sEnt get vs)
  | .len k => match sLen k get vs with | some v => one v | none => ones (ot op vs)
  | .cap => ones (sCap vs)
  | .app es bytes z => sApp es bytes z get nid vs
  | .cpy es => sCpy es get vs
  | .clr z => sClr z get vs
  | .min => match minmax false vs with | some v => one v | none => ones (ot op vs)
  | .max => match minmax true vs with | some v => one v | none => ones (ot op vs)
  | .call => []
  | .bad => []
end Go.Hx
