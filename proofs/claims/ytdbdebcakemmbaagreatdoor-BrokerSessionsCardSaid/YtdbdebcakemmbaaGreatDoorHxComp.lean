/- From the model's code to the executor's. -/
import Derived.Test.YtdbdebcakemmbaaGreatDoorHxOps
namespace Go.Hx
open Go

inductive MOpd where
  | t (n : Nat)
  | v (a : AV)
structure MOper where
  dst : Option Nat
  op : MOp
  args : List MOpd
  guard : Option (Nat × Bool)
/-- Of a region that draws its order: an operation, its number, of which kind it is (0 a value, 1 it reads, 2 it makes a row, 3 else); if it is of kind 3: which earlier ones of kinds 1 and 2 may as well come behind it. -/
structure DOper where
  o : MOper
  j : Nat
  kind : Nat
  reads : List Nat
  news : List Nat
inductive MCode where
  | skip
  | seq (a b : MCode)
  | cond (c : MOpd) (a b : MCode)
  | block (id : Nat) (b : MCode)
  | loop (b : MCode)
  | exit (id : Nat)
  | ret
  | reg (ops : List MOper)
  | dreg (n : Nat) (ops : List DOper)
  | bad
inductive MRes where
  | tmp (t : Nat)
  | cell (t : Nat) (n : Option Nat)

/-! ### Constants -/
def flatVal : Value → Option AV
  | .bool b => some (.bool b)
  | .int k n => some (.int k n)
  | .string s => some (.str (s.data.toList.map UInt8.toNat))
  | .pointer none => some .nilp
  | .slice none 0 0 => some .nils
  | .map none => some .nilm
  | .nilFunc => some .nilf
  | .nilIface => some .nili
  | _ => none
def flatVals : List Value → Option (List AV)
  | [] => some []
  | v :: vs => match flatVal v, flatVals vs with
    | some a, some as => some (a :: as)
    | _, _ => none
def cval : Value → Option AV
  | .agg cs => (flatVals cs.toList).map .agg
  | .tuple cs => (flatVals cs.toList).map .tup
  | v => flatVal v
def cOpd : Operand → Option MOpd
  | .tmp t => some (.t t)
  | .const v => (cval v).map .v
  | .global g => some (.v (.gptr g 0))
  | .func f => some (.v (.func f [] []))
def cOpds : List Operand → Option (List MOpd)
  | [] => some []
  | x :: xs => match cOpd x, cOpds xs with
    | some a, some as => some (a :: as)
    | _, _ => none

/-! ### Types -/
def tsize (P : Program) (t : TypeId) : Option Nat := (P.info? t).map (·.size)
def tagg (P : Program) (t : TypeId) : Option Bool := (P.underlying t).map fun | .struct _ | .array _ _ => true | _ => false
def tzero (P : Program) (t : TypeId) : Option AV := (P.info? t).bind fun i => i.zero.bind cval
/-- The size of a load: none: one cell. -/
def tload (P : Program) (t : TypeId) : Option (Option Nat) :=
  match tagg P t, tsize P t with
  | some true, some n => some (some n)
  | some false, some _ => some none
  | _, _ => none
def kindNum (P : Program) (t : TypeId) : Option Nat :=
  match P.underlying t with
  | some (.int _) => some 0
  | some .string => some 1
  | some .bool => some 2
  | _ => none
/-- The kinds of a struct's fields: numbers, texts, bools, one cell behind the other. -/
def flatFields (P : Program) : List Field → Nat → Option (List Nat)
  | [], _ => some []
  | f :: fs, i => if f.offset == i && (f.name != "_") then match kindNum P f.type, flatFields P fs (i + 1) with
    | some k, some ks => some (k :: ks)
    | _, _ => none
    else none
def cParts (P : Program) (place : Nat → Option (Nat × Nat)) : List (Nat × Operand) → Option (List (Nat × Nat))
  | [] => some []
  | (i, _) :: ps => match place i, cParts P place ps with
    | some x, some xs => some (x :: xs)
    | _, _ => none

def cBin (P : Program) (op : BinOp) (t : TypeId) : MOp :=
  match P.underlying t with
  | some (.int _) | some .string => .bin op
  | some .bool => match op with | .eql => .eqb false | .neq => .eqb true | _ => .bad
  | some (.pointer _) => match op with | .eql => .eqp false | .neq => .eqp true | _ => .bad
  | some (.slice _) => match op with | .eql => .eqs false | .neq => .eqs true | _ => .bad
  | some (.map _ _) => match op with | .eql => .eqm false | .neq => .eqm true | _ => .bad
  | some (.func _ _ _) => match op with | .eql => .eqf false | .neq => .eqf true | _ => .bad
  | some (.struct fs) => match flatFields P fs.toList 0 with
    | some ks => if !P.stoodInHeld t && !P.eqGuardType P.depth t then match op with | .eql => .eqst false ks | .neq => .eqst true ks | _ => .bad else .bad
    | none => .bad
  | _ => .bad
def cBuiltin (P : Program) (b : Builtin) (ts : Array TypeId) : MOp :=
  match b with
  | .len => match (ts[0]?).bind P.underlying with
    | some .string => .len 0
    | some (.slice _) => .len 1
    | some (.map _ _) => .len 2
    | _ => .bad
  | .cap => match (ts[0]?).bind P.underlying with
    | some (.slice _) => .cap
    | _ => .bad
  | .append => match (ts[0]?).bind P.underlying with
    | some (.slice e) => match P.info? e, tzero P e with
      | some i, some z => if !(decide ((cellsOf z).length = i.size) && allOne (cellsOf z)) then .bad else match ts[1]? with
        | some xt => match P.underlying xt with
          | some (.int _) => .app i.size i.bytes (some (cellsOf z))
          | some _ => .app i.size i.bytes none
          | none => .bad
        | none => .app i.size i.bytes none
      | _, _ => .bad
    | _ => .bad
  | .copy => match (ts[0]?).bind P.underlying with
    | some (.slice e) => match tsize P e with
      | some n => .cpy n
      | none => .bad
    | _ => .bad
  | .clear => match (ts[0]?).bind P.underlying with
    | some (.slice e) => match tzero P e with
      | some z => .clr (cellsOf z)
      | none => .bad
    | _ => .bad
  | .min => .min
  | .max => .max
  | .delete => match (ts[0]?).bind P.underlying with
    | some (.map k _) => match kindNum P k with
      | some kk => .mdel kk
      | none => .bad
    | _ => .bad
  | _ => .bad
def cOp (P : Program) : Op → MOp × List Operand
  | .move x | .assign x => (.mov, [x])
  | .pick c a b => (.pick, [c, a, b])
  | .alloc t => match tzero P t with
    | some z => (.alloc (cellsOf z), [])
    | none => (.bad, [])
  | .box _ x => (.box, [x])
  | .build t parts => match tzero P t, P.underlying t with
    | some (.agg z), some (.struct fs) => match cParts P (fun i => (fs[i]?).bind fun f => (tsize P f.type).map fun n => (f.offset, n)) parts.toList with
      | some ps => if fs.all fun f => (tsize P f.type).isSome then (.build z ps, parts.toList.map (·.2)) else (.bad, [])
      | none => (.bad, [])
    | some (.agg z), some (.array _ e) => match tsize P e with
      | some n => match cParts P (fun i => some (i * n, n)) parts.toList with
        | some ps => (.build z ps, parts.toList.map (·.2))
        | none => (.bad, [])
      | none => (.bad, [])
    | _, _ => (.bad, [])
  | .buildSlice t len parts => match P.underlying t with
    | some (.slice e) => match tsize P e, tzero P e with
      | some n, some z => match cParts P (fun i => some (i * n, n)) parts.toList with
        | some ps => if decide (len * n ≤ 16777216) && decide ((cellsOf z).length = n) && allOne (cellsOf z) then (.bslice (cellsOf z) len n ps, parts.toList.map (·.2)) else (.bad, [])
        | none => (.bad, [])
      | _, _ => (.bad, [])
    | _ => (.bad, [])
  | .load t a => match tload P t with
    | some n => (.load n, [a])
    | none => (.bad, [])
  | .store t a x => match tsize P t with
    | some n => (.store n, [a, x])
    | none => (.bad, [])
  | .nilCheck x => (.nilc, [x])
  | .binOp op t x y _ => (cBin P op t, [x, y])
  | .unOp op _ x => (.un op, [x])
  | .convert s d x => match P.underlying s, P.underlying d with
    | some (.int _), some (.int k) => (.conv k, [x])
    | some .string, some .string => (.s2s, [x])
    | some .string, some (.slice e) => match P.underlying e with
      | some (.int .u8) => (.s2b, [x])
      | _ => (.bad, [])
    | some (.slice e), some .string => match P.underlying e with
      | some (.int .u8) => (.b2s, [x])
      | _ => (.bad, [])
    | _, _ => (.bad, [])
  | .makeInterface t x => match P.underlying t with
    | some (.interface _) => (.bad, [])
    | some _ => (.mki t, [x])
    | none => (.bad, [])
  | .makeFunc (.func f) a c => (.mkf f a.size, a.toList ++ c.toList)
  | .makeMap t r => match P.underlying t with
    | some (.map _ _) => (.mkm, r.toList)
    | _ => (.bad, [])
  | .makeSlice t l c => match P.underlying t with
    | some (.slice e) => match P.info? e, tzero P e with
      | some i, some z => (.mks (cellsOf z) i.size i.bytes, [l, c])
      | _, _ => (.bad, [])
    | _ => (.bad, [])
  | .slice t x lo hi mx => match P.underlying t with
    | some .string => if mx.isSome then (.bad, []) else (.sls lo.isSome hi.isSome, [x] ++ lo.toList ++ hi.toList)
    | some (.slice e) => match tsize P e with
      | some n => (.slc n lo.isSome hi.isSome mx.isSome, [x] ++ lo.toList ++ hi.toList ++ mx.toList)
      | none => (.bad, [])
    | some (.array n e) => match tsize P e with
      | some es => (.sla n es lo.isSome hi.isSome mx.isSome, [x] ++ lo.toList ++ hi.toList ++ mx.toList)
      | none => (.bad, [])
    | _ => (.bad, [])
  | .fieldAddr s x i => match P.underlying s with
    | some (.struct fs) => match fs[i]? with
      | some f => match tsize P f.type with
        | some (_ + 1) => (.fa f.offset, [x])
        | _ => (.bad, [])
      | none => (.bad, [])
    | _ => (.bad, [])
  | .field t x i => match P.underlying t with
    | some (.struct fs) => match fs[i]? with
      | some f => match tsize P f.type, tagg P f.type with
        | some n, some a => (.fld f.offset (if a then n else 1) a, [x])
        | _, _ => (.bad, [])
      | none => (.bad, [])
    | _ => (.bad, [])
  | .indexAddr t x i => match P.underlying t with
    | some (.slice e) => match tsize P e with
      | some n => (.ia n, [x, i])
      | none => (.bad, [])
    | some (.array n e) => match tsize P e with
      | some es => (.iaa n es, [x, i])
      | none => (.bad, [])
    | _ => (.bad, [])
  | .index t x i => match P.underlying t with
    | some .string => (.ixs, [x, i])
    | _ => (.bad, [])
  | .lookup t x i ok => match P.underlying t with
    | some (.map k e) => match tzero P e, kindNum P k with
      | some z, some kk => (.look kk ok z, [x, i])
      | _, _ => (.bad, [])
    | _ => (.bad, [])
  | .mapUpdate t m k x | .insert t m k x => match P.underlying t with
    | some (.map kt _) => match kindNum P kt with
      | some kk => (.mset kk, [m, k, x])
      | none => (.bad, [])
    | _ => (.bad, [])
  | .range t x => match P.underlying t with
    | some .string => (.rng true, [x])
    | some (.map _ _) => (.rng false, [x])
    | _ => (.bad, [])
  | .next it s => (.nxt s, [it])
  | .entry it => (.ent, [it])
  | .extract t i => (.ext i, [t])
  | .call c => match c.callee with
    | .value f => (.call, f :: c.args.toList)
    | .builtin b => (cBuiltin P b c.argTypes, c.args.toList)
    | .invoke _ _ => (.bad, [])
  | _ => (.bad, [])
def cOper (P : Program) (ops : Array Oper) (o : Oper) : MOper :=
  let x := cOp P o.op
  match cOpds x.2, (match o.guard with
    | none => some none
    | some (g, b) => match (ops[g]?).bind (·.dst) with
      | some t => some (some (t, b))
      | none => none) with
  | some as, some g => { dst := o.dst, op := x.1, args := as, guard := g }
  | _, _ => { dst := none, op := .bad, args := [], guard := none }
def kindOf : MOp → Nat
  | .alloc _ | .box | .bslice _ _ _ _ | .mkm | .mks _ _ _ | .s2b => 2
  | .b2s | .load _ | .look _ _ _ | .len _ => 1
  | .store _ | .mset _ | .mdel _ | .rng _ | .nxt _ | .ent | .app _ _ _ | .cpy _ | .clr _ | .call | .bad => 3
  | _ => 0
/-! ### Regions that draw their order: put into one order, with what must be looked at -/
/-- What is asked of an operation: its number, what it writes, which temporaries it looks at, its kind, its guard; what comes ahead of it (bits). -/
structure DIn where
  j : Nat
  dst : Option Nat
  looks : List Nat
  kind : Nat
  bef : Nat
def looksAt (ops : Array Oper) (o : Oper) (xs : List Operand) : List Nat :=
  (xs.filterMap fun | .tmp t => some t | _ => none) ++ (match o.guard with
    | some (g, _) => ((ops[g]?).bind (·.dst)).toList
    | none => [])
def dIns (P : Program) (ops : Array Oper) : List DIn :=
  let b := Region.before ops
  ops.toList.zipIdx.map fun x =>
    let c := cOp P x.1.op
    { j := x.2, dst := x.1.dst, looks := looksAt ops x.1 c.2, kind := kindOf c.1, bef := b.getD x.2 0 }
def countBits (n : Nat) : List Nat → Nat
  | [] => 0
  | i :: is => (if n.testBit i then 1 else 0) + countBits n is
/-- Those of a stage, then the operation of kind 3 that ends it. -/
def staged (bars : List Nat) (l : List (DIn × Nat)) : Nat → List DIn → List DIn
  | m, [] => (l.filter fun x => Nat.beq x.2 m && !Nat.beq x.1.kind 3).map (·.1)
  | m, b :: bs => (l.filter fun x => Nat.beq x.2 m && !Nat.beq x.1.kind 3).map (·.1) ++ b :: staged bars l (m + 1) bs
def order (l : List DIn) : List DIn :=
  let bars := l.filter fun x => Nat.beq x.kind 3
  let bi := bars.map (·.j)
  staged bi (l.map fun x => (x, countBits x.bef bi)) 0 bars
/-- Is that order a good one? 'done': what stands ahead, the latest first; 'last': the last one of kind 3. -/
def dOk1 (done : List DIn) (last : Option Nat) (x : DIn) : Bool :=
  -- it isn't there yet; what comes ahead of it stands ahead of it
  (done.all fun y => !Nat.beq y.j x.j && !y.bef.testBit x.j) && !x.bef.testBit x.j &&
  -- behind the last one of kind 3
  (match last with | none => true | some b => x.bef.testBit b) &&
  -- what it looks at was written ahead of it, what it writes is looked at behind it, or ahead of it
  (match x.dst with
   | none => true
   | some d => done.all fun y => (match y.dst with | some e => !Nat.beq e d | none => true) && (!y.looks.any (Nat.beq d ·) || x.bef.testBit y.j)) &&
  (done.all fun y => match y.dst with | some e => !x.looks.any (Nat.beq e ·) || x.bef.testBit y.j | none => true)
def dOk : List DIn → Option Nat → List DIn → Bool
  | _, _, [] => true
  | done, last, x :: xs => dOk1 done last x && dOk (x :: done) (if Nat.beq x.kind 3 then some x.j else last) xs
def pend (k : Nat) (x : DIn) : List DIn → List Nat
  | [] => []
  | y :: ys => if Nat.beq y.kind k && !x.bef.testBit y.j then y.j :: pend k x ys else pend k x ys
def dOpers (f : Nat → MOper) : List DIn → List DIn → List DOper
  | _, [] => []
  | done, x :: xs => { o := f x.j, j := x.j, kind := x.kind, reads := if Nat.beq x.kind 3 then pend 1 x done else [], news := if Nat.beq x.kind 3 then pend 2 x done else [] } :: dOpers f (x :: done) xs
def edgesOk (ops : Array Oper) : Bool := ops.toList.zipIdx.all fun x => x.1.after.toList.all fun e => !Region.binds .any e || Nat.blt e.on x.2
def cDraw (P : Program) (mask : Nat) (ops : Array Oper) : MCode :=
  let l := order (dIns P ops)
  if edgesOk ops && (ops.toList.all fun o => match o.dst with | none => true | some d => !mask.testBit d) && ((List.range ops.size).all fun j => l.any fun x => Nat.beq x.j j) && dOk [] none l then
    .dreg ops.size (dOpers (fun j => match ops[j]? with
      | some o => cOper P ops o
      | none => { dst := none, op := .bad, args := [], guard := none }) [] l)
  else .bad
/-! ### Copies within a region in the text's order -/
abbrev Sub := List (Nat × MOpd)
def subGet (n : Nat) : Sub → Option MOpd
  | [] => none
  | (d, x) :: l => if Nat.beq d n then some x else subGet n l
def subOpd (l : Sub) : MOpd → MOpd
  | .t n => match subGet n l with
    | some x => x
    | none => .t n
  | .v a => .v a
def isT (n : Nat) : MOpd → Bool
  | .t m => Nat.beq m n
  | .v _ => false
/-- What a write leaves. -/
def subKill (d : Option Nat) (l : Sub) : Sub := match d with
  | none => l
  | some d => l.filter fun p => !Nat.beq p.1 d && !isT d p.2
/-- A copy into a temporary that is only ever written by such. -/
def copyOf (mask : Nat) (o : MOper) : Option (Nat × MOpd) := match o.op, o.dst, o.args, o.guard with
  | .mov, some d, [x], none => if mask.testBit d && !isT d x then some (d, x) else none
  | _, _, _, _ => none
def badOper : MOper := { dst := none, op := .bad, args := [], guard := none }
def dstFree (mask : Nat) (o : MOper) : Bool := match o.dst with
  | none => true
  | some d => !mask.testBit d
def subOps (mask : Nat) : Sub → List MOper → List MOper
  | _, [] => []
  | l, o :: os =>
    let o' : MOper := { o with args := o.args.map (subOpd l) }
    match copyOf mask o' with
    | some p => subOps mask (p :: subKill (some p.1) l) os
    | none => if dstFree mask o' then o' :: subOps mask (subKill o.dst l) os else [badOper]
def compile (P : Program) (mask : Nat) : Code → MCode
  | .skip => .skip
  | .region _ ops false => .reg (subOps mask [] (ops.toList.map (cOper P ops)))
  | .region _ ops true => cDraw P mask ops
  | .seq a b => .seq (compile P mask a) (compile P mask b)
  | .cond c a b => match cOpd c with
    | some x => .cond x (compile P mask a) (compile P mask b)
    | none => .bad
  | .block id b => .block id (compile P mask b)
  | .loop b => .loop (compile P mask b)
  | .exit id => .exit id
  | .ret => .ret
  | _ => .bad
end Go.Hx
