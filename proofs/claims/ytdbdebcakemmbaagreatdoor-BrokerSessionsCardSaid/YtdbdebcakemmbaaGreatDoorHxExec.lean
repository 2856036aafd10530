/- The executor. Nothing here is proved. -/
import Derived.Test.YtdbdebcakemmbaaGreatDoorHxComp
import Derived.Test.YtdbdebcakemmbaaGreatDoorHxFast
namespace Go.Hx
open Go

structure Heap where
  next : Nat
  objs : T AO
structure MFunc where
  mask : Nat
  many : Bool
  ntmps : Nat
  results : List MRes
  body : MCode
/-- What an answer is: 'both', 'it fails' (with a number that says where), 'for each of the values that an opaque one may have'. -/
structure Ans (R : Type) where
  both : R → R → R
  fail : Nat → R
  split : Nat → (AV → R) → R
/-- The functions; those that are taken by what is proved of them; package-level variables' cells; what is known of opaque values. -/
structure Cx where
  fns : T MFunc
  prim : Nat → Option (List AV → Heap → List (AV × Heap))
  gm : Nat → Nat → Option AV
  ot : MOp → List AV → Option AV
  ch : T AV → Nat → Option (List AV)
  lets : Nat → Bool
  rounds : Nat

/-! ### Are two things the same? -/
mutual
def AV.same : AV → AV → Bool
  | .bool a, .bool b => if a then b else !b
  | .int k a, .int k' b => kbeq k k' && decide (a = b)
  | .str a, .str b => lbeq a b
  | .nilp, .nilp => true
  | .ptr i o, .ptr j p => Nat.beq i j && Nat.beq o p
  | .gptr i o, .gptr j p => Nat.beq i j && Nat.beq o p
  | .nils, .nils => true
  | .slice i o l e c, .slice i' o' l' e' c' => Nat.beq i i' && Nat.beq o o' && Nat.beq l l' && Nat.beq e e' && (match c, c' with
    | none, none => true
    | some a, some b => Nat.beq a b
    | _, _ => false)
  | .nilm, .nilm => true
  | .map i, .map j => Nat.beq i j
  | .func f a c, .func f' a' c' => Nat.beq f f' && AV.sames a a' && AV.sames c c'
  | .nilf, .nilf => true
  | .iface t v, .iface t' v' => Nat.beq t t' && AV.same v v'
  | .nili, .nili => true
  | .agg a, .agg b => AV.sames a b
  | .tup a, .tup b => AV.sames a b
  | .opq i, .opq j => Nat.beq i j
  | _, _ => false
def AV.sames : List AV → List AV → Bool
  | [], [] => true
  | a :: as, b :: bs => AV.same a b && AV.sames as bs
  | _, _ => false
end
def T.same : T AV → T AV → Bool
  | .nil, .nil => true
  | .nd v a b c d, .nd v' a' b' c' d' => (match v, v' with
    | none, none => true
    | some x, some y => AV.same x y
    | _, _ => false) && T.same a a' && T.same b b' && T.same c c' && T.same d d'
  | _, _ => false
def entriesSame : List (AV × AV × Nat) → List (AV × AV × Nat) → Bool
  | [], [] => true
  | (k, v, b) :: es, (k', v', b') :: es' => AV.same k k' && AV.same v v' && Nat.beq b b' && entriesSame es es'
  | _, _ => false
def AO.same : AO → AO → Bool
  | .cells t l c, .cells t' l' c' => T.same t t' && Nat.beq l l' && (if c then c' else !c')
  | .map es c, .map es' c' => entriesSame es es' && Nat.beq c c'
  | .siter s p, .siter s' p' => lbeq s s' && Nat.beq p p'
  | .miter m s l n, .miter m' s' l' n' => (match m, m' with
    | none, none => true
    | some a, some b => Nat.beq a b
    | _, _ => false) && Nat.beq s s' && lbeq l l' && Nat.beq n n'
  | _, _ => false
def T.isNone : T AO → Bool
  | .nil => true
  | .nd none a b c d => T.isNone a && T.isNone b && T.isNone c && T.isNone d
  | .nd (some _) _ _ _ _ => false
def T.sameA : T AO → T AO → Bool
  | .nil, t => T.isNone t
  | .nd v a b c d, .nd v' a' b' c' d' => (match v, v' with
    | none, none => true
    | some x, some y => AO.same x y
    | _, _ => false) && T.sameA a a' && T.sameA b b' && T.sameA c c' && T.sameA d d'
  | .nd (some _) _ _ _ _, .nil => false
  | .nd none a b c d, .nil => T.isNone a && T.isNone b && T.isNone c && T.isNone d
def sameO : Option AO → Option AO → Bool
  | none, none => true
  | some a, some b => AO.same a b
  | _, _ => false

/-! ### The pieces -/
section
variable {R : Type}
noncomputable def evs (fail : R) (env : T AV) (l : List MOpd) : (List AV → R) → R :=
  List.rec (motive := fun _ => (List AV → R) → R) (fun k => k [])
    (fun x _ ih k => MOpd.rec (motive := fun _ => R)
      (fun n => Option.rec (motive := fun _ => R) fail (fun v => ih fun vs => k (v :: vs)) (env.get n))
      (fun a => ih fun vs => k (a :: vs)) x) l
noncomputable def applyWs (t : T AO) (ws : Ws) : (T AO → R) → R :=
  List.rec (motive := fun _ => T AO → (T AO → R) → R) (fun t k => k t)
    (fun x _ ih t k => T.put (x.1 + 1) t x.1 x.2 fun t => ih t k) ws t
noncomputable def setDst (env : T AV) (dst : Option Nat) (v : AV) (k : T AV → R) : R :=
  Option.rec (motive := fun _ => R) (k env) (fun d => T.put (d + 1) env d (some v) k) dst
noncomputable def isCall (op : MOp) : Bool := MOp.rec (motive := fun _ => Bool) false false (fun _ => false) (fun _ => false) (fun _ => false) (fun _ => false) (fun _ => false) (fun _ => false) (fun _ => false) (fun _ _ => false) (fun _ => false) (fun _ => false) false false false (fun _ => false) false (fun _ _ => false) (fun _ _ _ _ => false) (fun _ => false) (fun _ => false) false (fun _ => false) (fun _ _ => false) false (fun _ _ _ => false) (fun _ _ _ _ => false) (fun _ _ => false) (fun _ _ _ _ _ => false) (fun _ => false) (fun _ => false) (fun _ _ => false) false (fun _ _ _ => false) (fun _ _ _ => false) (fun _ _ _ => false) (fun _ => false) (fun _ => false) (fun _ => false) (fun _ => false) false (fun _ => false) false (fun _ _ _ => false) (fun _ => false) (fun _ => false) false false true false op
/-- Each outcome. -/
def each (A : Ans R) (fail : R) (k : AV × Ws → R) : List (AV × Ws) → R
  | [] => fail
  | [x] => k x
  | x :: xs => A.both (k x) (each A fail k xs)
def eachH (A : Ans R) (fail : R) (k : AV → Heap → R) : List (AV × Heap) → R
  | [] => fail
  | [x] => k x.1 x.2
  | x :: xs => A.both (k x.1 x.2) (eachH A fail k xs)
abbrev Call (R : Type) := Nat → List AV → Heap → (AV → Heap → R) → R
/-- A guard: run, skip. -/
noncomputable def guarded (A : Ans R) (code : Nat) (run skip : R) (g : Option (Nat × Bool)) (env : T AV) : R :=
  Option.rec (motive := fun _ => R) run (fun p => match env.get p.1 with
    | some (.bool c) => if (if c then p.2 else !p.2) then run else skip
    | some (.opq i) => A.split i fun v => match v with
      | .bool c => if (if c then p.2 else !p.2) then run else skip
      | _ => A.fail code
    | some _ => skip
    | none => A.fail code) g

/-! ### Opaque values, put in -/
def sub0 (i : Nat) (v : AV) : AV → AV
  | .opq j => if Nat.beq j i then v else .opq j
  | x => x
def subs0 (i : Nat) (v : AV) : List AV → List AV
  | [] => []
  | x :: xs => sub0 i v x :: subs0 i v xs
def sub1 (i : Nat) (v : AV) : AV → AV
  | .opq j => if Nat.beq j i then v else .opq j
  | .agg cs => .agg (subs0 i v cs)
  | .tup cs => .tup (subs0 i v cs)
  | .iface t x => .iface t (sub0 i v x)
  | x => x
def subs1 (i : Nat) (v : AV) : List AV → List AV
  | [] => []
  | x :: xs => sub1 i v x :: subs1 i v xs
/-- The first opaque one. -/
def opqs0 : List AV → Option Nat
  | [] => none
  | .opq i :: _ => some i
  | _ :: xs => opqs0 xs
def opqs1 : List AV → Option Nat
  | [] => none
  | .opq i :: _ => some i
  | .agg cs :: xs => match opqs0 cs with | some i => some i | none => opqs1 xs
  | .tup cs :: xs => match opqs0 cs with | some i => some i | none => opqs1 xs
  | .iface _ v :: xs => match opqs0 [v] with | some i => some i | none => opqs1 xs
  | _ :: xs => opqs1 xs
/-- What is not known of these values is known of those that the opaque ones among them may be. -/
noncomputable def settle {α : Type} (A : Ans R) (code : Nat) (try_ : List AV → List α) (k : List α → R) (n : Nat) : List AV → R :=
  Nat.rec (motive := fun _ => List AV → R) (fun _ => A.fail code)
    (fun _ ih vs => match try_ vs with
      | [] => match opqs1 vs with
        | some i => A.split i fun v => ih (subs1 i v vs)
        | none => A.fail code
      | x :: xs => k (x :: xs)) n
/-- One operation that is no call, at the number nid for what it makes. -/
noncomputable def doSmallS (A : Ans R) (cx : Cx) (op : MOp) (vs : List AV) (objs : T AO) (nid : Nat) (k : AV → Ws → T AO → R) : R :=
  settle A op.ctorIdx (smallF cx.gm cx.ot op objs.get nid) (each A (A.fail op.ctorIdx) (fun x => applyWs objs x.2 fun objs => k x.1 x.2 objs)) 8 vs
/-- One outcome, as is common, or else. -/
noncomputable def doSmall (A : Ans R) (cx : Cx) (op : MOp) (vs : List AV) (objs : T AO) (nid : Nat) (k : AV → Ws → T AO → R) : R :=
  List.rec (motive := fun _ => R) (doSmallS A cx op vs objs nid k)
    (fun x l _ => List.rec (motive := fun _ => R) (Prod.rec (motive := fun _ => R) (fun r ws => applyWs objs ws fun objs => k r ws objs) x) (fun _ _ _ => doSmallS A cx op vs objs nid k) l)
    (smallF cx.gm cx.ot op objs.get nid vs)
noncomputable def doCall (A : Ans R) (call : Call R) (vs : List AV) (h : Heap) (k : AV → Heap → R) : R :=
  match vs with
  | .func f a c :: args => call f (a ++ args ++ c) h k
  | _ => A.fail 100
/-- A region in its order. -/
noncomputable def runOps (A : Ans R) (cx : Cx) (call : Call R) (l : List MOper) : T AV → Heap → (T AV → Heap → R) → R :=
  List.rec (motive := fun _ => T AV → Heap → (T AV → Heap → R) → R) (fun env h k => k env h)
    (fun o _ ih env h k =>
      guarded A 101
        (evs (A.fail 102) env o.args fun vs =>
          Bool.rec (motive := fun _ => R) (doSmall A cx o.op vs h.objs h.next fun r ws objs =>
            setDst env o.dst r fun env => List.rec (motive := fun _ => R) (ih env ⟨h.next, objs⟩ k) (fun _ _ _ => force (Nat.add h.next 1) fun n => ih env ⟨n, objs⟩ k) ws)
            (doCall A call vs h fun r h => setDst env o.dst r fun env => ih env h k) (isCall o.op))
        (setDst env o.dst (.tup []) fun env => ih env h k)
        o.guard env) l

/-! ### A region that draws its order -/
/-- What was read, of what. -/
structure Rec where
  op : MOp
  vs : List AV
  r : AV
def nidsOf (base : Nat) : List Nat → List Nat
  | [] => []
  | i :: is => (base + i) :: nidsOf base is
def delIds : List Nat → Ws
  | [] => []
  | id :: ids => (id, none) :: delIds ids
noncomputable def backIds (t : T AO) : List Nat → Ws
  | [] => []
  | id :: ids => (id, t.get id) :: backIds t ids
/-- Is what was read still read? -/
noncomputable def still (cx : Cx) (recs : T Rec) (get : Nat → Option AO) : List Nat → Bool
  | [] => true
  | i :: is => match recs.get i with
    | none => still cx recs get is
    | some x => match smallF cx.gm cx.ot x.op get 0 x.vs with
      | [(r, [])] => if AV.same x.r r then still cx recs get is else false
      | _ => false
/-- One outcome, nothing written but the new row. -/
noncomputable def lone (A : Ans R) (code nid : Nat) (objs : T AO) (k : AV → T AO → R) : List (AV × Ws) → R
  | [(r, [])] => k r objs
  | [(r, [(i, some o)])] => if Nat.beq i nid then T.put (i + 1) objs i (some o) fun objs => k r objs else A.fail code
  | _ => A.fail code
/-- The operations of no kind 3: their values as they are. -/
noncomputable def doQuietN (A : Ans R) (cx : Cx) (op : MOp) (objs : T AO) (nid : Nat) (k : List AV → AV → T AO → R) (n : Nat) : List AV → R :=
  Nat.rec (motive := fun _ => List AV → R) (fun _ => A.fail 121)
    (fun _ ih vs => match smallF cx.gm cx.ot op objs.get nid vs with
      | [] => match opqs1 vs with
        | some i => A.split i fun v => ih (subs1 i v vs)
        | none => A.fail op.ctorIdx
      | x :: xs => lone A 122 nid objs (k vs) (x :: xs)) n
noncomputable def doQuiet (A : Ans R) (cx : Cx) (op : MOp) (vs : List AV) (objs : T AO) (nid : Nat) (k : List AV → AV → T AO → R) : R := doQuietN A cx op objs nid k 8 vs
noncomputable def runDraw (A : Ans R) (cx : Cx) (call : Call R) (base : Nat) (l : List DOper) : T Rec → T AV → Heap → (T AV → Heap → R) → R :=
  List.rec (motive := fun _ => T Rec → T AV → Heap → (T AV → Heap → R) → R) (fun _ env h k => k env h)
    (fun x _ ih recs env h k =>
      guarded A 103
        (evs (A.fail 104) env x.o.args fun vs =>
          if Nat.beq x.kind 3 then
            let ids := nidsOf base x.news
            applyWs h.objs (delIds ids) fun part =>
            let on : AV → Nat → T AO → R := fun r next objs =>
              applyWs objs (backIds h.objs ids) fun objs =>
              if still cx recs objs.get x.reads then setDst env x.o.dst r fun env => ih recs env ⟨next, objs⟩ k else A.fail 106
            if isCall x.o.op then doCall A call vs ⟨h.next, part⟩ fun r h' => on r h'.next h'.objs
            else doSmall A cx x.o.op vs part (base + x.j) fun r _ objs => on r h.next objs
          else
            doQuiet A cx x.o.op vs h.objs (base + x.j) fun vs r objs =>
              if Nat.beq x.kind 1 then T.put (x.j + 1) recs x.j (some ⟨x.o.op, vs, r⟩) fun recs => setDst env x.o.dst r fun env => ih recs env ⟨h.next, objs⟩ k
              else setDst env x.o.dst r fun env => ih recs env ⟨h.next, objs⟩ k)
        (setDst env x.o.dst (.tup []) fun env => ih recs env h k)
        x.o.guard env) l

/-! ### Code -/
noncomputable def evc (env : T AV) (x : MOpd) : Option AV := match x with
  | .t n => env.get n
  | .v a => some a
noncomputable def exec (A : Ans R) (cx : Cx) (call : Call R) (c : MCode) : T AV → Heap → (T AV → Heap → R) → (Nat → T AV → Heap → R) → (T AV → Heap → R) → R :=
  MCode.rec (motive := fun _ => T AV → Heap → (T AV → Heap → R) → (Nat → T AV → Heap → R) → (T AV → Heap → R) → R)
    (fun env h kn _ _ => kn env h)
    (fun _ _ iha ihb env h kn kx kr => iha env h (fun env h => ihb env h kn kx kr) kx kr)
    (fun c _ _ iha ihb env h kn kx kr => match evc env c with
      | some (.bool b) => if b then iha env h kn kx kr else ihb env h kn kx kr
      | some (.opq i) => A.split i fun v => match v with
        | .bool b => if b then iha env h kn kx kr else ihb env h kn kx kr
        | _ => A.fail 108
      | _ => A.fail 109)
    (fun id _ ih env h kn kx kr => ih env h kn (fun i env h => if Nat.beq i id then kn env h else kx i env h) kr)
    (fun _ ih env h _ kx kr => Nat.rec (motive := fun _ => T AV → Heap → R) (fun _ _ => A.fail 110) (fun _ it env h => ih env h it kx kr) cx.rounds env h)
    (fun id env h _ kx _ => kx id env h)
    (fun env h _ _ kr => kr env h)
    (fun ops env h kn _ _ => runOps A cx call ops env h kn)
    (fun n ops env h kn _ _ => force (h.next + n) fun n => runDraw A cx call h.next ops .nil env ⟨n, h.objs⟩ kn)
    (fun _ _ _ _ _ => A.fail 111)
    c
noncomputable def resVals (gm : Nat → Nat → Option AV) (env : T AV) (h : Heap) : List MRes → Option (List AV)
  | [] => some []
  | .tmp t :: rs => match env.get t, resVals gm env h rs with
    | some v, some vs => some (v :: vs)
    | _, _ => none
  | .cell t n :: rs => match env.get t with
    | some a => match sLoad gm n h.objs.get [a], resVals gm env h rs with
      | some v, some vs => some (v :: vs)
      | _, _ => none
    | none => none
def resOf : List AV → AV
  | [v] => v
  | vs => .tup vs
noncomputable def callBody (A : Ans R) (cx : Cx) (call : Call R) (fn : MFunc) (args : List AV) (h : Heap) (k : AV → Heap → R) : R :=
  if Nat.ble args.length fn.ntmps && Nat.beq (Nat.mod fn.mask (2 ^ args.length)) 0 then
    let fin : T AV → Heap → R := fun env h => match resVals cx.gm env h fn.results with
      | some vs => k (resOf vs) h
      | none => A.fail 112
    exec A cx call fn.body (ofList args) h fin (fun _ _ _ => A.fail 113) fin
  else A.fail 114
/-- Answers that hang on what has been taken of the opaque ones. -/
structure Ans0 (R : Type) where
  both : R → R → R
  fail : Nat → R
  yes : R
noncomputable def allOf {R : Type} (A : Ans0 R) (k : AV → R) : List AV → R
  | [] => A.yes
  | [x] => k x
  | x :: xs => A.both (k x) (allOf A k xs)
abbrev Asg := T AV
noncomputable def lift {R : Type} (ch : Asg → Nat → Option (List AV)) (A : Ans0 R) : Ans (Asg → R) where
  both := fun a b g => A.both (a g) (b g)
  fail := fun n _ => A.fail n
  split := fun i k g => match g.get i with
    | some v => k v g
    | none => match ch g i with
      | some l => allOf A (fun v => T.put (i + 1) g i (some v) fun g => k v g) l
      | none => A.fail 130
abbrev Out := AV × Heap × Asg
/-- What came out of all ways; none: one failed. -/
def collect : Ans0 (Option (List Out)) where
  both := fun a b => match a, b with
    | some x, some y => some (x ++ y)
    | _, _ => none
  fail := fun _ => none
  yes := some []
def avIds : AV → List Nat
  | .ptr id _ => [id]
  | .slice id _ _ _ _ => [id]
  | .map id => [id]
  | _ => []
def avsIds : List AV → List Nat
  | [] => []
  | v :: vs => avIds v ++ avsIds vs
def resIds : AV → List Nat
  | .tup vs => avsIds vs
  | v => avIds v
/-- Iterators that were made are let go; or all that was made but what comes back. -/
noncomputable def dropIts (objs : T AO) (all : Bool) (keep : List Nat) (from_ n : Nat) : (T AO → R) → R :=
  Nat.rec (motive := fun _ => Nat → T AO → (T AO → R) → R) (fun _ t k => k t)
    (fun _ ih id t k => if all && !memN id keep then T.put (id + 1) t id none fun t => force (id + 1) fun i => ih i t k else match t.get id with
      | some (.miter _ _ _ _) => T.put (id + 1) t id none fun t => force (id + 1) fun i => ih i t k
      | some (.siter _ _) => T.put (id + 1) t id none fun t => force (id + 1) fun i => ih i t k
      | _ => force (id + 1) fun i => ih i t k) n from_ objs
def sameAll (x : Out) : List Out → Bool
  | [] => true
  | y :: ys => AV.same x.1 y.1 && T.sameA x.2.1.objs y.2.1.objs && T.same x.2.2 y.2.2 && sameAll x ys
def maxNext (n : Nat) : List Out → Nat
  | [] => n
  | y :: ys => maxNext (Nat.max n y.2.1.next) ys
/-- If all are alike, one of them, the numbers of all let be. -/
noncomputable def merge : List Out → List Out
  | [] => []
  | x :: xs => if sameAll x xs then force (maxNext x.2.1.next xs) fun n => [(x.1, ⟨n, x.2.1.objs⟩, x.2.2)] else x :: xs
noncomputable def each3 {R : Type} (A : Ans0 R) (k : AV → Heap → Asg → R) : List Out → R
  | [] => A.yes
  | [x] => k x.1 x.2.1 x.2.2
  | x :: xs => A.both (k x.1 x.2.1 x.2.2) (each3 A k xs)
noncomputable def callN (cx : Cx) (fuel : Nat) : (R : Type) → Ans0 R → Call (Asg → R) :=
  Nat.rec (motive := fun _ => (R : Type) → Ans0 R → Call (Asg → R)) (fun _ A _ _ _ _ _ => A.fail 115)
    (fun _ call R A f args h k => match cx.prim f with
      | some p => settle (lift cx.ch A) (1000 + f) (fun args => p args h) (eachH (lift cx.ch A) (fun _ => A.fail (1000 + f)) k) 8 args
      | none => match cx.fns.get f with
        | some fn => if fn.many || cx.lets f then fun g =>
            match callBody (lift cx.ch collect) cx (call _ collect) fn args h (fun r h' g' => dropIts h'.objs (cx.lets f) (resIds r) h.next (h'.next - h.next) fun objs => some [(r, ⟨h'.next, objs⟩, g')]) g with
            | some l => each3 A k (merge l)
            | none => A.fail 117
          else callBody (lift cx.ch A) cx (call R A) fn args h k
        | none => fun _ => A.fail (2000 + f)) fuel
end
end Go.Hx
/- The functions that the executor takes by what is proved of them: two of Go's own on texts. -/
namespace Go.Hx
open Go

def idxFrom (c : Nat) : List Nat → Nat → Int
  | [], _ => Int.negSucc 0
  | x :: xs, i => if Nat.beq x c then .ofNat i else idxFrom c xs (i + 1)
def countN (c : Nat) : List Nat → Nat → Nat
  | [], n => n
  | x :: xs, n => if Nat.beq x c then countN c xs (n + 1) else countN c xs n
def pIndexByte : List AV → Heap → List (AV × Heap)
  | [.str s, .int .u8 (.ofNat c)], h => if Nat.blt c 256 then [(.int .i64 (idxFrom c s 0), h)] else []
  | _, _ => []
def pCount : List AV → Heap → List (AV × Heap)
  | [.str s, .int .u8 (.ofNat c)], h => if Nat.blt c 256 then [(.int .i64 (.ofNat (countN c s 0)), h)] else []
  | _, _ => []
end Go.Hx
/- The table of a program's functions, as the executor has them; Go's tables of UTF-8. -/
namespace Go.Hx
open Go

def hasNext (c : Code) : Bool := match c with
  | .seq a b | .cond _ a b => hasNext a || hasNext b
  | .block _ b | .loop b => hasNext b
  | .region _ ops _ => ops.toList.any fun o => match o.op with | .next _ false => true | _ => false
  | _ => false
def cRes (P : Program) : List ResultVar → Option (List MRes)
  | [] => some []
  | .tmp t :: rs => (cRes P rs).map (.tmp t :: ·)
  | .cell a t :: rs => match tload P t, cRes P rs with
    | some n, some l => some (.cell a n :: l)
    | _, _ => none
def dstOk (n : Nat) (o : Oper) : Bool := match o.dst with
  | none => true
  | some d => Nat.blt d n
/-- All that is written lies in the frame. -/
def dstsOk (n : Nat) : Code → Bool
  | .region _ ops _ => ops.toList.all (dstOk n)
  | .seq a b => dstsOk n a && dstsOk n b
  | .cond _ a b => dstsOk n a && dstsOk n b
  | .block _ b => dstsOk n b
  | .loop b => dstsOk n b
  | _ => true
def cFunc (P : Program) (mask : Nat) (f : Func) : Option MFunc :=
  match f.body, cRes P f.results.toList with
  | some c, some rs => if dstsOk f.ntmps c then some { mask := mask, many := hasNext c, ntmps := f.ntmps, results := rs, body := compile P mask c } else none
  | _, _ => none
/-- The table: each function with its mask (0 where none is told). -/
noncomputable def fnsFrom (P : Program) (l : List Func) : List Nat → Nat → T MFunc → T MFunc :=
  List.rec (motive := fun _ => List Nat → Nat → T MFunc → T MFunc) (fun _ _ t => t) (fun f _ ih ms i t => List.rec (motive := fun _ => T MFunc)
    (force (Nat.add i 1) fun j => ih [] j (T.set 0 t i (cFunc P 0 f))) (fun m ms _ => force (Nat.add i 1) fun j => ih ms j (T.set 0 t i (cFunc P m f))) ms) l
noncomputable def fnsOf (P : Program) (masks : List Nat) : T MFunc := fnsFrom P P.funcs.toList masks 0 .nil

def utfFirst (b : Nat) : Nat :=
  if Nat.blt b 128 then 240 else if Nat.blt b 194 then 241 else if Nat.blt b 224 then 2 else if Nat.blt b 225 then 19 else if Nat.blt b 237 then 3 else if Nat.blt b 238 then 35 else if Nat.blt b 240 then 3
  else if Nat.blt b 241 then 52 else if Nat.blt b 244 then 4 else if Nat.blt b 245 then 68 else 241
def acceptR : List Nat := [128, 191, 160, 191, 128, 159, 144, 191, 128, 143, 0, 0, 0, 0, 0, 0, 0, 0, 0, 0, 0, 0, 0, 0, 0, 0, 0, 0, 0, 0, 0, 0]
/-- The tables of UTF-8, by the numbers of the two variables. -/
def utfMem (first accept : Nat) (g off : Nat) : Option AV :=
  if Nat.beq g first then (if Nat.blt off 256 then some (.int .u8 (.ofNat (utfFirst off))) else none)
  else if Nat.beq g accept then match acceptR[off]? with
    | some n => some (.int .u8 (.ofNat n))
    | none => none
  else none
def noOt : MOp → List AV → Option AV := fun _ _ => none
def noCh : Asg → Nat → Option (List AV) := fun _ _ => none
def ansB : Ans0 Bool where
  both := fun a b => a && b
  fail := fun _ => false
  yes := true
def isTrue : AV → Heap → Asg → Bool
  | .bool b, _, _ => b
  | _, _, _ => false
end Go.Hx
