/-
  THE ABSTRACT INTERPRETER: functions of a loaded program, run over plain values (numbers, strings, lists, pairs) instead of memory. Definitions alone.
  A slice that nobody writes any more is a list; a slice that the function made itself, and a variable whose address is taken, are objects with a name (Key).
-/
import GoSem.Step
import Derived.Laws.Sem
import Derived.Orders
set_option linter.unusedVariables false
namespace Go.AI
open Go
noncomputable section

/-- shapes of plain values -/
inductive Sh where
  | int (k : IntKind)
  | bool
  | str
  | unit
  | pair (a b : Sh)
  | slice (s : Sh)
  deriving DecidableEq, Inhabited

@[reducible] def Val : Sh → Type
  | .int _ => Int
  | .bool => Bool
  | .str => ByteArray
  | .unit => Unit
  | .pair a b => Val a × Val b
  | .slice s => List (Val s)

/-- how many cells -/
def Sh.n : Sh → Nat
  | .int _ | .bool | .str | .slice _ => 1
  | .unit => 0
  | .pair a b => a.n + b.n

/-- does a slice stand in it? -/
def Sh.hasSl : Sh → Bool
  | .slice _ => true
  | .pair a b => a.hasSl || b.hasSl
  | _ => false

def zeroV : (s : Sh) → Val s
  | .int _ => (0 : Int)
  | .bool => false
  | .str => ByteArray.empty
  | .unit => ()
  | .pair a b => (zeroV a, zeroV b)
  | .slice _ => []

/-- names of objects: made at a slot; the i-th that came in; out of a callee; the slice that a cell holds; the j-th part of a result -/
inductive Key where
  | loc (s : Nat)
  | imp (i : Nat)
  | sub (dst : Nat) (k : Key)
  | fld (k : Key) (off : Nat)
  | res (j : Nat)
  deriving DecidableEq, Inhabited

def keyB : Key → Key → Bool
  | .loc a, .loc b => Nat.beq a b
  | .imp a, .imp b => Nat.beq a b
  | .sub a k, .sub b l => Nat.beq a b && keyB k l
  | .fld k a, .fld l b => Nat.beq a b && keyB k l
  | .res a, .res b => Nat.beq a b
  | _, _ => false

/-- one abstract cell -/
inductive L where
  | dead
  | tt
  | ff
  | v (s : Sh) (x : Val s)
  | box (k : Key) (off : Nat)
  | sl (k : Key)
  | clo (k : Key)
  | fn (f : FuncId)
  | velt (s : Sh) (xs : List (Val s)) (i : Int) (off : Nat)
  | elt (k : Key) (i : Int) (off : Nat)
  | nilp
  | nilf
  | nils
  | nili
  | nilm
  | ifc (t : TypeId)
  deriving Inhabited

/-- what a slot holds -/
inductive C where
  | one (l : L)
  | agg (ls : List L)
  | tup (cs : List (Bool × List L))
  deriving Inhabited

inductive Obj where
  | cells (ls : List L)
  | slice (s : Sh) (xs : List (Val s))
  | clo (f : FuncId) (first : List (Bool × List L)) (caps : List L)
  deriving Inhabited

abbrev Objs := List (Key × Obj)

structure St where
  α : List C
  objs : Objs

def C.cells : C → List L
  | .one l => [l]
  | .agg ls => ls
  | .tup _ => []

/-- a value out of its cells: an aggregate, or a single one -/
def wrapC (agg : Bool) (ls : List L) : C :=
  match agg, ls with
  | true, ls => .agg ls
  | false, [l] => .one l
  | false, _ => .one .dead

def C.map (f : L → L) : C → C
  | .one l => .one (f l)
  | .agg ls => .agg (ls.map f)
  | .tup cs => .tup (cs.map fun p => (p.1, p.2.map f))
def Obj.map (f : L → L) : Obj → Obj
  | .cells ls => .cells (ls.map f)
  | .slice s xs => .slice s xs
  | .clo g first caps => .clo g (first.map fun p => (p.1, p.2.map f)) (caps.map f)
def mapO (f : L → L) (o : Objs) : Objs := o.map fun p => (p.1, p.2.map f)
def St.map (f : L → L) (st : St) : St := ⟨st.α.map (C.map f), mapO f st.objs⟩

def lookO : Objs → Key → Option Obj
  | [], _ => none
  | (k, o) :: r, key => bif keyB k key then some o else lookO r key
def setO : Objs → Key → Obj → Objs
  | [], key, o => [(key, o)]
  | (k, o') :: r, key, o => bif keyB k key then (k, o) :: r else (k, o') :: setO r key o
def delO (o : Objs) (key : Key) : Objs := o.filter fun p => !keyB p.1 key

/-- the name that a cell refers to -/
def L.key : L → Option Key
  | .box k _ | .sl k | .clo k | .elt k _ _ => some k
  | _ => none
def L.kill (p : Key → Bool) (l : L) : L := match l.key with
  | some k => bif p k then .dead else l
  | none => l
def L.ren (ρ : Key → Option Key) : L → L
  | .box k off => match ρ k with | some k' => .box k' off | none => .dead
  | .sl k => match ρ k with | some k' => .sl k' | none => .dead
  | .clo k => match ρ k with | some k' => .clo k' | none => .dead
  | .elt k i off => match ρ k with | some k' => .elt k' i off | none => .dead
  | l => l
def L.frz (key : Key) (s : Sh) (xs : List (Val s)) : L → L
  | .sl k => bif keyB k key then .v (.slice s) xs else .sl k
  | .elt k i off => bif keyB k key then .velt s xs i off else .elt k i off
  | l => l

/-- a name's object goes, and what refers to it is forgotten -/
def St.drop (key : Key) (st : St) : St := ⟨st.α.map (C.map (L.kill (keyB key))), mapO (L.kill (keyB key)) (delO st.objs key)⟩
/-- a new object under a name -/
def St.new (key : Key) (o : Obj) (st : St) : St := ⟨(st.drop key).α, (st.drop key).objs ++ [(key, o)]⟩
/-- what refers to it is forgotten; the object is another one now -/
def St.turn (key : Key) (o : Obj) (st : St) : St := ⟨st.α.map (C.map (L.kill (keyB key))), setO (mapO (L.kill (keyB key)) st.objs) key o⟩
/-- a slice's object becomes a plain list wherever it stands -/
def St.freeze (key : Key) (st : St) : St := match lookO st.objs key with
  | some (.slice s xs) => ⟨st.α.map (C.map (L.frz key s xs)), mapO (L.frz key s xs) (delO st.objs key)⟩
  | _ => st
/-- an object gets another name -/
def St.rename (st : St) (k K' : Key) : St :=
  let st1 := st.drop K'
  let ρ : Key → Option Key := fun k' => bif keyB k k' then some K' else some k'
  ⟨st1.α.map (C.map (L.ren ρ)), (mapO (L.ren ρ) st1.objs).map fun p => (bif keyB k p.1 then K' else p.1, p.2)⟩
def St.put (st : St) (dst : Option Nat) (c : C) : St := match dst with
  | some d => ⟨st.α.set d c, st.objs⟩
  | none => st

def getS (α : List C) (i : Nat) : C := α.getD i (.one .dead)

def evalO (α : List C) : Operand → C
  | .tmp t => getS α t
  | .const (.int k n) => .one (.v (.int k) n)
  | .const (.bool true) => .one .tt
  | .const (.bool false) => .one .ff
  | .const (.string s) => .one (.v .str s)
  | .const (.slice none 0 0) => .one .nils
  | .const (.pointer none) => .one .nilp
  | .const .nilFunc => .one .nilf
  | .const .nilIface => .one .nili
  | .const (.map none) => .one .nilm
  | .func f => .one (.fn f)
  | _ => .one .dead

/-! ### points at which a reading of the text stands still -/
section
variable {R : Type}
@[irreducible] def brC (b : Bool) (x y : Option R) : Option R := bif b then x else y
@[irreducible] def guardC (p : Prop) [Decidable p] (x : Option R) : Option R := if p then x else none
@[irreducible] def eltC {s : Sh} (xs : List (Val s)) (i : Int) (K : Val s → Option R) : Option R := (xs[i.toNat]?).bind K
/-- two ways that come to the same -/
@[irreducible] def agreeC (x y : Option R) : Option R := match x, y with
  | some a, some b => open Classical in if a = b then some a else none
  | _, _ => none
@[reducible] def twiceC (x : Option R) : Option R := agreeC x x
@[irreducible] def bytC (s : ByteArray) (i : Int) (K : Int → Option R) : Option R := (s.data.toList[i.toNat]?).bind fun b => K b.toNat
end

/-! ### plain values and cells -/
def castV (s t : Sh) (x : Val s) : Option (Val t) := if h : s = t then some (h ▸ x) else none

def toL : (s : Sh) → Val s → List L
  | .int k, n => [.v (.int k) n]
  | .bool, b => [.v .bool b]
  | .str, x => [.v .str x]
  | .unit, _ => []
  | .pair a b, x => toL a x.1 ++ toL b x.2
  | .slice s, xs => [.v (.slice s) xs]

def ofL (objs : Objs) : (s : Sh) → List L → Option (Val s)
  | .int k, [.v s x] => castV s (.int k) x
  | .bool, [.tt] => some true
  | .bool, [.ff] => some false
  | .bool, [.v s x] => castV s .bool x
  | .str, [.v s x] => castV s .str x
  | .unit, [] => some ()
  | .pair a b, ls => match ofL objs a (ls.take a.n), ofL objs b (ls.drop a.n) with
    | some x, some y => some (x, y)
    | _, _ => none
  | .slice s, [.v t x] => castV t (.slice s) x
  | .slice _, [.nils] => some []
  | .slice s, [.sl k] => match lookO objs k with
    | some (.slice t xs) => castV (.slice t) (.slice s) xs
    | _ => none
  | _, _ => none

/-- the slices' objects among cells that are kept for good somewhere -/
def slKeys : List L → List Key
  | [] => []
  | .sl k :: r => k :: slKeys r
  | _ :: r => slKeys r
def St.freezes (ks : List Key) (st : St) : St := ks.foldl (fun s k => s.freeze k) st

/-! ### the program's types -/
/-- the shape of a type; the number bounds the nesting -/
def shapeOf (P : Program) : Nat → TypeId → Option Sh
  | 0, _ => none
  | d + 1, t => match P.underlying t with
    | some (.int k) => some (.int k)
    | some .bool => some .bool
    | some .string => some .str
    | some (.slice e) => (shapeOf P d e).map .slice
    | some (.struct fs) => ((fs.toList.mapM fun f => shapeOf P d f.type).map fun ss => ss.foldr (fun a r => match r with | none => some a | some b => some (Sh.pair a b)) none).bind id
    | some (.array n e) => (shapeOf P d e).bind fun s => (List.replicate n s).foldr (fun a r => match r with | none => some a | some b => some (Sh.pair a b)) none
    | _ => none
/-- the types of a type's cells -/
def leafT (P : Program) : Nat → TypeId → Option (List TypeId)
  | 0, _ => none
  | d + 1, t => match P.underlying t with
    | some (.struct fs) => (fs.toList.mapM fun f => leafT P d f.type).map List.flatten
    | some (.array n e) => (leafT P d e).map fun l => (List.replicate n l).flatten
    | some _ => some [t]
    | none => none
def depthT : Nat := 12

/-- a new variable's cell: what it holds, and the object for it, if it is a slice -/
def zeroCell (P : Program) (own : Bool) (dst off : Nat) (t : TypeId) : Value → L × Objs
  | .int k n => (.v (.int k) n, [])
  | .bool true => (.tt, [])
  | .bool false => (.v .bool false, [])
  | .string s => (.v .str s, [])
  | .slice none 0 0 => match P.underlying t with
    | some (.slice e) => match shapeOf P depthT e with
      | some s => bif own && Nat.blt 0 s.n then (.sl (.fld (.loc dst) off), [(.fld (.loc dst) off, .slice s [])]) else (.nils, [])
      | none => (.nils, [])
    | _ => (.nils, [])
  | .pointer none => (.nilp, [])
  | .nilFunc => (.nilf, [])
  | .nilIface => (.nili, [])
  | .map none => (.nilm, [])
  | _ => (.dead, [])

def zeroCells (P : Program) (own : Bool) (dst : Nat) : Nat → List TypeId → List Value → List L × Objs
  | _, [], _ => ([], [])
  | _, _ :: _, [] => ([], [])
  | off, t :: ts, v :: vs =>
    ((zeroCell P own dst off t v).1 :: (zeroCells P own dst (off + 1) ts vs).1, (zeroCell P own dst off t v).2 ++ (zeroCells P own dst (off + 1) ts vs).2)

/-- a value of a type, out of its cells -/
def wrapT (P : Program) (t : TypeId) (ls : List L) : Option C := match P.underlying t with
  | some (.struct _) => some (.agg ls)
  | some (.array _ _) => some (.agg ls)
  | some _ => match ls with
    | [l] => some (.one l)
    | _ => none
  | none => none

/-- are these the cells of the zero value? -/
def zeroFit : Sh → List Value → Bool
  | .int k, [.int k' n] => decide (k = k') && decide (n = 0)
  | .bool, [.bool false] => true
  | .str, [.string s] => Nat.beq s.size 0
  | .unit, [] => true
  | .pair a b, vs => zeroFit a (vs.take a.n) && zeroFit b (vs.drop a.n)
  | .slice _, [.slice none 0 0] => true
  | _, _ => false

def zeroOf (P : Program) (t : TypeId) : Option Value := ((P.info? t).bind (·.zero)).bind fun z => bif z.cells.toList.all (·.oneCell') then some z else none
def sizeT (P : Program) (t : TypeId) : Option Nat := (P.info? t).map (·.size)
def bytesT (P : Program) (t : TypeId) : Option Nat := (P.info? t).map (·.bytes)

/-! ### operations -/
def intOp (op : BinOp) (k : IntKind) (x y : Int) : Option L :=
  match op with
  | .add => some (.v (.int k) (k.wrap (x + y)))
  | .sub => some (.v (.int k) (k.wrap (x - y)))
  | .mul => some (.v (.int k) (k.wrap (x * y)))
  | .eql => some (.v .bool (x == y))
  | .neq => some (.v .bool (x != y))
  | .lss => some (.v .bool (decide (x < y)))
  | .leq => some (.v .bool (decide (x ≤ y)))
  | .gtr => some (.v .bool (decide (x > y)))
  | .geq => some (.v .bool (decide (x ≥ y)))
  | _ => none

def strOp (op : BinOp) (x y : ByteArray) : Option L :=
  match op with
  | .eql => some (.v .bool (x.toList == y.toList))
  | .neq => some (.v .bool (!(x.toList == y.toList)))
  | _ => none

def boolOf : L → Option Bool
  | .tt => some true
  | .ff => some false
  | .v .bool b => some b
  | _ => none

/-- equality of single cells: numbers, truth values -/
def eqL : L → L → Option Bool
  | .v (.int k) x, .v (.int k') y => bif (decide (k = k')) then some (decide ((x : Int) = (y : Int))) else none
  | a, b => match boolOf a, boolOf b with
    | some x, some y => some (x == y)
    | _, _ => none
def isBoolT (P : Program) (t : TypeId) : Bool := match P.underlying t with
  | some .bool => true
  | _ => false
def isStructT (P : Program) (t : TypeId) : Bool := match P.underlying t with
  | some (.struct _) => true
  | _ => false
def andO : List (Option Bool) → Option Bool
  | [] => some true
  | some b :: r => match andO r with
    | some x => some (b && x)
    | none => none
  | none :: _ => none
/-- equality of cells by their type -/
def eqT (P : Program) : Nat → TypeId → List L → List L → Option Bool
  | 0, _, _, _ => none
  | d + 1, t, xs, ys => match P.underlying t with
    | some (.int _) => match xs, ys with
      | [.v (.int k) x], [.v (.int k') y] => eqL (.v (.int k) x) (.v (.int k') y)
      | _, _ => none
    | some .bool => match xs, ys with
      | [a], [b] => match boolOf a, boolOf b with
        | some x, some y => some (x == y)
        | _, _ => none
      | _, _ => none
    | some (.struct fs) => bif P.stoodInHeld t then none else andO (fs.toList.map fun f => bif decide (f.name = "_") then some true else match sizeT P f.type with
      | some n => bif Nat.ble (f.offset + n) xs.length && Nat.ble (f.offset + n) ys.length then eqT P d f.type ((xs.drop f.offset).take n) ((ys.drop f.offset).take n) else none
      | none => none)
    | some .string => match xs, ys with
      | [.v .str x], [.v .str y] => some (ByteArray.toList x == ByteArray.toList y)
      | _, _ => none
    | _ => none

/-- is there a plain list in it that may share memory? -/
def L.imm : L → Bool
  | .v s _ => s.hasSl
  | .velt .. => true
  | _ => false
def C.imm : C → Bool
  | .one l => l.imm
  | .agg ls => ls.any L.imm
  | .tup cs => cs.any fun p => p.2.any L.imm
def Obj.imm : Obj → Bool
  | .cells ls => ls.any L.imm
  | .slice s _ => s.hasSl
  | .clo _ first caps => first.any (fun p => p.2.any L.imm) || caps.any L.imm

/-! ### calls: what goes along -/
def Obj.keys : Obj → List Key
  | .cells ls => ls.filterMap L.key
  | .slice _ _ => []
  | .clo _ first caps => first.flatMap (fun p => p.2.filterMap L.key) ++ caps.filterMap L.key
/-- the names that are reached -/
def reach (objs : Objs) : Nat → List Key → List Key → List Key
  | 0, _, seen => seen
  | _ + 1, [], seen => seen
  | d + 1, k :: todo, seen => bif seen.any (keyB k) then reach objs d todo seen else
    match lookO objs k with
    | some o => reach objs d (todo ++ o.keys) (seen ++ [k])
    | none => reach objs d todo seen
def idxK (ks : List Key) (k : Key) (i : Nat := 0) : Option Nat := match ks with
  | [] => none
  | k' :: r => bif keyB k' k then some i else idxK r k (i + 1)

/-- the callee's name of an object of the caller's: the slice in a cell of an object that goes along is named by that object -/
def sendK (ks : List Key) : Key → Option Key
  | .fld k off => match sendK ks k with
    | some k' => some (.fld k' off)
    | none => (idxK ks (.fld k off)).map .imp
  | k => (idxK ks k).map .imp
/-- the caller's object behind a name of the callee's -/
def decK (ks : List Key) : Key → Option Key
  | .imp i => ks[i]?
  | .fld k off => match decK ks k with
    | some k' => some (.fld k' off)
    | none => none
  | _ => none
def backK (ks : List Key) (dst : Nat) (k : Key) : Key := match decK ks k with
  | some k' => k'
  | none => .sub dst k

/-- an argument's cell: bools are plain, slices of the caller's own are lent as lists -/
def argL (objs : Objs) (byRef : Bool) : L → L
  | .tt => .v .bool true
  | .ff => .v .bool false
  | .sl k => bif byRef then .sl k else match lookO objs k with
    | some (.slice s xs) => .v (.slice s) xs
    | _ => .dead
  | .velt .. => .dead
  | .elt .. => .dead
  | l => l
def lentL (byRef : Bool) : L → List Key
  | .sl k => bif byRef then [] else [k]
  | _ => []

def C.leaves : C → List L
  | .one l => [l]
  | .agg ls => ls
  | .tup cs => cs.flatMap (·.2)

def zipRef (byRef : List Nat) : Nat → List C → List (Bool × C)
  | _, [] => []
  | i, c :: r => (byRef.any (Nat.beq i), c) :: zipRef byRef (i + 1) r

/-- the callee's view -/
structure Sent where
  args : List C
  objs : Objs
  keys : List Key
  lent : List Key
def send (objs : Objs) (byRef : List Nat) (args : List C) : Sent :=
  let zs := zipRef byRef 0 args
  let args1 := zs.map fun p => p.2.map (argL objs p.1)
  let ks := reach objs 64 (args1.flatMap fun c => c.leaves.filterMap L.key) []
  { args := args1.map (C.map (L.ren (sendK ks)))
    objs := ks.filterMap fun k => match sendK ks k, lookO objs k with
      | some k', some o => some (k', o.map (L.ren (sendK ks)))
      | _, _ => none
    keys := ks
    lent := zs.flatMap fun p => p.2.leaves.flatMap (lentL p.1) }

def isSub (dst : Nat) : Key → Bool
  | .sub d _ => Nat.beq d dst
  | _ => false
def isImp : Key → Bool
  | .imp _ => true
  | _ => false
def St.dropAll (p : Key → Bool) (st : St) : St := ⟨st.α.map (C.map (L.kill p)), mapO (L.kill p) (st.objs.filter fun q => !p q.1)⟩
/-- do the names that come back stand apart? -/
def apartK : List Key → Bool
  | [] => true
  | k :: r => !r.any (keyB k) && apartK r
/-- names back; a name without an object is forgotten -/
def backR (ks : List Key) (dst : Nat) (o : Objs) (k : Key) : Option Key := bif o.any (fun p => keyB p.1 k) then some (backK ks dst k) else none
/-- names that are not the caller's any more -/
def goneK (ks : List Key) (dst : Nat) (o : Objs) (k : Key) : Bool := isSub dst k || ks.any (fun k' => keyB k' k) || o.any (fun p => keyB (backK ks dst p.1) k)
/-- names that mean the same things still -/
def keepK (ks : List Key) (o : Objs) (k : Key) : Bool := o.any fun p => isImp p.1 && (match decK ks p.1 with
  | some k' => keyB k' k
  | none => false)
def killK (ks : List Key) (dst : Nat) (o : Objs) (k : Key) : Bool := goneK ks dst o k && !keepK ks o k
/-- the caller's state behind a call that hands back objects: those that kept their names are the same things still -/
def receive (st : St) (dst : Nat) (ks : List Key) (o : Objs) : St :=
  ⟨st.α.map (C.map (L.kill (killK ks dst o))), mapO (L.kill (killK ks dst o)) (st.objs.filter fun q => !goneK ks dst o q.1) ++ o.map fun p => (backK ks dst p.1, p.2.map (L.ren (backR ks dst o)))⟩

/-! ### patterns: the shape of what comes back, its plain values being variables -/
inductive LP where
  | v (s : Sh)
  | dead
  | box (k : Key) (off : Nat)
  | sl (k : Key)
  | clo (k : Key)
  | fn (f : FuncId)
  | nilp | nilf | nils | nili | nilm
  | ifc (t : TypeId)
inductive CP where
  | one (l : LP)
  | agg (ls : List LP)
  | tup (cs : List (Bool × List LP))
inductive OP where
  | cells (ls : List LP)
  | slice (s : Sh)
  | clo (f : FuncId) (first : List (Bool × List LP)) (caps : List LP)

@[reducible] def LP.Pay : LP → Type
  | .v s => Val s
  | _ => Unit
@[reducible] def PayLs : List LP → Type
  | [] => Unit
  | p :: r => p.Pay × PayLs r
@[reducible] def PayCs : List (Bool × List LP) → Type
  | [] => Unit
  | p :: r => PayLs p.2 × PayCs r
@[reducible] def CP.Pay : CP → Type
  | .one l => l.Pay
  | .agg ls => PayLs ls
  | .tup cs => PayCs cs
@[reducible] def OP.Pay : OP → Type
  | .cells ls => PayLs ls
  | .slice s => List (Val s)
  | .clo _ f c => PayCs f × PayLs c
@[reducible] def PayOs : List (Key × OP) → Type
  | [] => Unit
  | p :: r => p.2.Pay × PayOs r

def LP.mk : (p : LP) → p.Pay → L
  | .v s, x => .v s x
  | .dead, _ => .dead
  | .box k off, _ => .box k off
  | .sl k, _ => .sl k
  | .clo k, _ => .clo k
  | .fn f, _ => .fn f
  | .nilp, _ => .nilp
  | .nilf, _ => .nilf
  | .nils, _ => .nils
  | .nili, _ => .nili
  | .nilm, _ => .nilm
  | .ifc t, _ => .ifc t
def mkLs : (ps : List LP) → PayLs ps → List L
  | [], _ => []
  | p :: r, x => p.mk x.1 :: mkLs r x.2
def mkCs : (ps : List (Bool × List LP)) → PayCs ps → List (Bool × List L)
  | [], _ => []
  | p :: r, x => (p.1, mkLs p.2 x.1) :: mkCs r x.2
def CP.mk : (p : CP) → p.Pay → C
  | .one l, x => .one (l.mk x)
  | .agg ls, x => .agg (mkLs ls x)
  | .tup cs, x => .tup (mkCs cs x)
def OP.mk : (p : OP) → p.Pay → Obj
  | .cells ls, x => .cells (mkLs ls x)
  | .slice s, x => .slice s x
  | .clo g f c, x => .clo g (mkCs f x.1) (mkLs c x.2)
def mkOs : (ps : List (Key × OP)) → PayOs ps → Objs
  | [], _ => []
  | p :: r, x => (p.1, p.2.mk x.1) :: mkOs r x.2

/-- read a cell by a pattern; a bool that is known is a plain one; whatever fits what is dead -/
def LP.un : (p : LP) → L → Option p.Pay
  | .v s, .v t x => castV t s x
  | .v .bool, .tt => some true
  | .v .bool, .ff => some false
  | .v (.slice _), .nils => some []
  | .dead, _ => some ()
  | .box k off, .box k' off' => bif keyB k k' && Nat.beq off off' then some () else none
  | .sl k, .sl k' => bif keyB k k' then some () else none
  | .clo k, .clo k' => bif keyB k k' then some () else none
  | .fn f, .fn g => bif Nat.beq f g then some () else none
  | .nilp, .nilp => some ()
  | .nilf, .nilf => some ()
  | .nils, .nils => some ()
  | .nili, .nili => some ()
  | .nilm, .nilm => some ()
  | .ifc t, .ifc u => bif Nat.beq t u then some () else none
  | _, _ => none
def unLs : (ps : List LP) → List L → Option (PayLs ps)
  | [], [] => some ()
  | p :: r, l :: ls => match p.un l, unLs r ls with
    | some x, some y => some (x, y)
    | _, _ => none
  | _, _ => none
def unCs : (ps : List (Bool × List LP)) → List (Bool × List L) → Option (PayCs ps)
  | [], [] => some ()
  | p :: r, c :: cs => bif p.1 == c.1 then (match unLs p.2 c.2, unCs r cs with
    | some x, some y => some (x, y)
    | _, _ => none) else none
  | _, _ => none
def CP.un : (p : CP) → C → Option p.Pay
  | .one l, .one x => l.un x
  | .one .dead, _ => some ()
  | .agg ls, .agg xs => unLs ls xs
  | .tup cs, .tup xs => unCs cs xs
  | _, _ => none
def OP.un : (p : OP) → Obj → Option p.Pay
  | .cells ls, .cells xs => unLs ls xs
  | .slice s, .slice t xs => castV (.slice t) (.slice s) xs
  | .clo g f c, .clo g' f' c' => bif Nat.beq g g' then (match unCs f f', unLs c c' with
    | some x, some y => some (x, y)
    | _, _ => none) else none
  | _, _ => none
def unOs (objs : Objs) : (ps : List (Key × OP)) → Option (PayOs ps)
  | [] => some ()
  | p :: r => match lookO objs p.1 with
    | some o => match p.2.un o, unOs objs r with
      | some x, some y => some (x, y)
      | _, _ => none
    | none => none

/-- how a call ends -/
inductive Res where
  | ret (c : C) (o : Objs)
  | pan (t : TypeId) (o : Objs)

/-- the shape of a result, and of the objects that come with it; of the objects at a panic -/
structure RP where
  c : CP
  os : List (Key × OP)
  pan : Option (List (Key × OP)) := none
@[reducible] def RP.Pay (p : RP) : Type := p.c.Pay × PayOs p.os
def RP.mk' (p : RP) (x : p.Pay) : C × Objs := (p.c.mk x.1, mkOs p.os x.2)
def RP.un (p : RP) (c : C) (o : Objs) : Option p.Pay := match p.c.un c, unOs o p.os with
  | some x, some y => some (x, y)
  | _, _ => none

/-- a state: the slots that are kept (all others are dead), and objects -/
structure SP where
  n : Nat
  slots : List (Nat × CP)
  os : List (Key × OP)
@[reducible] def PaySs : List (Nat × CP) → Type
  | [] => Unit
  | p :: r => p.2.Pay × PaySs r
@[reducible] def SP.Pay (p : SP) : Type := PaySs p.slots × PayOs p.os
def mkSs : (ps : List (Nat × CP)) → PaySs ps → List C → List C
  | [], _, α => α
  | p :: r, x, α => mkSs r x.2 (α.set p.1 (p.2.mk x.1))
def SP.mk' (p : SP) (x : p.Pay) : St := ⟨mkSs p.slots x.1 (List.replicate p.n (.one .dead)), mkOs p.os x.2⟩
def unSs (α : List C) : (ps : List (Nat × CP)) → Option (PaySs ps)
  | [] => some ()
  | p :: r => match p.2.un (getS α p.1), unSs α r with
    | some x, some y => some (x, y)
    | _, _ => none
def SP.un (p : SP) (st : St) : Option p.Pay := bif Nat.beq p.n st.α.length then (match unSs st.α p.slots, unOs st.objs p.os with
  | some x, some y => some (x, y)
  | _, _ => none) else none

/-! ### a state is brought into a shape: slices that are to be lists become lists, slices that are to have a name get it -/
def setL (n : Nat) (l : L) : C → C
  | .one l' => bif Nat.beq n 0 then .one l else .one l'
  | .agg ls => .agg (ls.set n l)
  | .tup cs => .tup (setT n cs)
where
  setT : Nat → List (Bool × List L) → List (Bool × List L)
    | _, [] => []
    | n, p :: r => bif Nat.blt n p.2.length then (p.1, p.2.set n l) :: r else p :: setT (n - p.2.length) r
def CP.leaves : CP → List LP
  | .one l => [l]
  | .agg ls => ls
  | .tup cs => cs.flatMap (·.2)
def lookP : List (Key × OP) → Key → Option OP
  | [], _ => none
  | (k, o) :: r, key => bif keyB k key then some o else lookP r key
/-- one leaf of one slot -/
def fitL (os : List (Key × OP)) (i n : Nat) (lp : LP) (st : St) : St :=
  match lp, (getS st.α i).leaves[n]? with
  | .v (.slice _), some (.sl k) => st.freeze k
  | .sl key, some (.sl k) => bif keyB k key || isImp key then st else st.rename k key
  | .sl key, some .nils => match lookP os key with
    | some (.slice s) => bif Nat.blt 0 s.n && !isImp key then (let st' := st.new key (.slice s []); ⟨st'.α.set i (setL n (.sl key) (getS st'.α i)), st'.objs⟩) else st
    | _ => st
  | _, _ => st
def fitLs (os : List (Key × OP)) (i : Nat) : Nat → List LP → St → St
  | _, [], st => st
  | n, lp :: r, st => fitLs os i (n + 1) r (fitL os i n lp st)
def fit (os : List (Key × OP)) : List (Nat × CP) → St → St
  | [], st => st
  | p :: r, st => fit os r (fitLs os p.1 0 p.2.leaves st)

inductive Ex where
  | normal
  | exit (id : Nat)
  | ret
  | pan (t : TypeId)
def Ex.beq : Ex → Ex → Bool
  | .normal, .normal | .ret, .ret => true
  | .exit a, .exit b => Nat.beq a b
  | .pan a, .pan b => Nat.beq a b
  | _, _ => false

@[irreducible] def sumC {R A B : Type} (z : A ⊕ B) (f : A → Option R) (g : B → Option R) : Option R := match z with
  | .inl x => f x
  | .inr x => g x
@[irreducible] def noC {R : Type} (z : Empty) : Option R := z.elim
@[reducible] def PayX : List (Ex × SP) → Type
  | [] => Empty
  | p :: r => p.2.Pay ⊕ PayX r
def unX : (ps : List (Ex × SP)) → Ex → St → Option (PayX ps)
  | [], _, _ => none
  | p :: r, e, st => bif p.1.beq e then (p.2.un (fit p.2.os p.2.slots st)).map .inl else (unX r e st).map .inr
def onX {R : Type} : (ps : List (Ex × SP)) → PayX ps → (Ex → St → Option R) → Option R
  | [], x, _ => noC x
  | p :: r, x, K => sumC x (fun x => K p.1 (p.2.mk' x)) (fun x => onX r x K)

abbrev Call := FuncId → List C → Objs → Option Res

/-- a call that returns -/
@[irreducible] def callC {R : Type} (p : RP) (x : Option Res) (K : p.Pay → Option R) : Option R := match x with
  | some (.ret c o) => (p.un c o).bind K
  | _ => none
/-- a call that returns or panics -/
@[irreducible] def callXC {R : Type} (p : RP) (os : List (Key × OP)) (x : Option Res) (K : p.Pay → Option R) (X : TypeId → PayOs os → Option R) : Option R := match x with
  | some (.ret c o) => (p.un c o).bind K
  | some (.pan t o) => (unOs o os).bind (X t)
  | none => none
@[irreducible] def iterC {A B : Type} (step : A → Option (A ⊕ B)) : Nat → A → Option B
  | 0, _ => none
  | k + 1, a => match step a with
    | some (.inl a') => iterC step k a'
    | some (.inr b) => some b
    | none => none
@[irreducible] def loopC {R B : Type} (x : Option B) (K : B → Option R) : Option R := x.bind K

/-- what the text does not tell: loops' states, results' shapes, which slices are cut short for good, which are handed on to be written -/
structure Hints where
  loop : FuncId → Nat → Option (SP × List (Ex × SP))
  ret : FuncId → Option RP
  pop : FuncId → Nat → Bool
  byRef : FuncId → List Nat

section
variable (P : Program) (H : Hints) (call : Call)

/-- a parts list whose indices are 0, 1, .. -/
def inOrder : Nat → List (Nat × Operand) → Bool
  | _, [] => true
  | i, p :: r => Nat.beq p.1 i && inOrder (i + 1) r

def fieldOff (s : TypeId) (f : Nat) : Option Nat := match P.underlying s with
  | some (.struct fs) => (fs[f]?).map (·.offset)
  | _ => none
def fieldT (s : TypeId) (f : Nat) : Option TypeId := match P.underlying s with
  | some (.struct fs) => (fs[f]?).map (·.type)
  | _ => none
/-- where a field lies, if it has cells -/
def fieldAt (s : TypeId) (f : Nat) : Option Nat := match fieldOff P s f, (fieldT P s f).bind (sizeT P) with
  | some o, some n => bif Nat.blt 0 n then some o else none
  | _, _ => none
def elemT (t : TypeId) : Option TypeId := match P.underlying t with
  | some (.slice e) => some e
  | _ => none
def arrT (t : TypeId) : Option (Nat × TypeId) := match P.underlying t with
  | some (.array n e) => some (n, e)
  | _ => none
def isStrT (t : TypeId) : Bool := match P.underlying t with
  | some .string => true
  | _ => false

def spliceL (xs : List L) (off : Nat) (ys : List L) : List L := xs.take off ++ ys ++ xs.drop (off + ys.length)

/-- the parts of a struct or an array, laid over cells -/
def fillL (place : Nat → Option (Nat × Nat)) : List L → List (Nat × List L) → Option (List L)
  | cs, [] => some cs
  | cs, (i, ls) :: r => match place i with
    | some (off, size) => bif Nat.beq ls.length size && Nat.ble (off + size) cs.length then fillL place (spliceL cs off ls) r else none
    | none => none

def mapM' {A B : Type} (f : A → Option B) : List A → Option (List B)
  | [] => some []
  | a :: r => match f a, mapM' f r with
    | some b, some bs => some (b :: bs)
    | _, _ => none

def intOf' : C → Option Int
  | .one (.v (.int _) n) => some n
  | _ => none
def int64Of : C → Option Int
  | .one (.v (.int .i64) n) => some n
  | _ => none
def optInt (α : List C) : Option Operand → Option (Option Int)
  | none => some none
  | some x => (intOf' (evalO α x)).map some

/-- what nothing but the operands tells -/
def binOp' (op : BinOp) (xT : TypeId) (a b : C) : Option L :=
  match a, b with
  | .one (.v (.int k) x), .one (.v (.int k') y) => bif decide (k = k') then intOp op k x y else none
  | .one (.v .str x), .one (.v .str y) => strOp op x y
  | .one x, .one y => match boolOf x, boolOf y with
    | some p, some q => bif isBoolT P xT then (match op with
      | .eql => some (.v .bool (p == q))
      | .neq => some (.v .bool (!(p == q)))
      | _ => none) else none
    | _, _ => none
  | .agg xs, .agg ys => bif isStructT P xT && !P.eqGuardType P.depth xT then (match op, eqT P depthT xT xs ys with
      | .eql, some r => some (.v .bool r)
      | .neq, some r => some (.v .bool (!r))
      | _, _ => none) else none
  | _, _ => none

def lenL (objs : Objs) (t : TypeId) : L → Option Int
  | .v (.slice _) xs => bif (elemT P t).isSome then some (List.length xs) else none
  | .v .str s => bif isStrT P t then some (ByteArray.size s) else none
  | .nils => bif (elemT P t).isSome then some 0 else none
  | .sl k => match lookO objs k with
    | some (.slice _ xs) => bif (elemT P t).isSome then some xs.length else none
    | _ => none
  | _ => none

def minmax (mx : Bool) : List Int → Option Int
  | [] => none
  | x :: r => some (r.foldl (fun a b => bif mx then (bif decide (b > a) then b else a) else (bif decide (b < a) then b else a)) x)

def pureOp (st : St) : Op → Option C
  | .move x => some (evalO st.α x)
  | .assign x => some (evalO st.α x)
  | .nilCheck x => match evalO st.α x with
    | .one (.box k off) => some (.one (.box k off))
    | .one (.fn g) => some (.one (.fn g))
    | .one (.clo k) => match lookO st.objs k with
      | some (.clo g f c) => some (.one (.clo k))
      | _ => none
    | _ => none
  | .fieldAddr s x i => match evalO st.α x, fieldAt P s i with
    | .one (.box k off), some o => some (.one (.box k (off + o)))
    | .one (.velt s xs i off), some o => some (.one (.velt s xs i (off + o)))
    | .one (.elt k i off), some o => match lookO st.objs k with
      | some (.slice _ _) => some (.one (.elt k i (off + o)))
      | _ => none
    | _, _ => none
  | .field s x i => match evalO st.α x, fieldOff P s i, fieldT P s i with
    | .agg ls, some o, some t => match sizeT P t with
      | some n => bif Nat.ble (o + n) ls.length then wrapT P t ((ls.drop o).take n) else none
      | none => none
    | _, _, _ => none
  | .binOp op xT x y _ => (binOp' P op xT (evalO st.α x) (evalO st.α y)).map .one
  | .unOp op _ x => match op, evalO st.α x with
    | .not, .one .tt => some (.one .ff)
    | .not, .one .ff => some (.one .tt)
    | .not, .one (.v .bool b) => some (.one (.v .bool (!b)))
    | .neg, .one (.v (.int k) n) => some (.one (.v (.int k) (k.wrap (0 - n))))
    | _, _ => none
  | .convert s d x => match P.underlying s, P.underlying d, evalO st.α x with
    | some _, some (.int k), .one (.v (.int _) n) => some (.one (.v (.int k) (k.wrap n)))
    | _, _, _ => none
  | .makeFunc (.func g) first caps => bif Nat.beq first.size 0 && Nat.beq caps.size 0 then some (.one (.fn g)) else none
  | .makeInterface t x => match evalO st.α x, P.underlying t with
    | .agg [], some (.struct _) => some (.one (.ifc t))
    | _, _ => none
  | .extract t i => match evalO st.α t with
    | .tup cs => match cs[i]? with
      | some p => some (wrapC p.1 p.2)
      | none => none
    | _ => none
  | .call c => match c.callee with
    | .builtin b => match b, c.args.toList.map (evalO st.α) with
      | .len, [.one l] => match c.argTypes[0]? with
        | some t => (lenL P st.objs t l).map fun n => .one (.v (.int .i64) n)
        | none => none
      | .min, cs => match mapM' int64Of cs with
        | some ns => (minmax false ns).map fun n => .one (.v (.int .i64) n)
        | none => none
      | .max, cs => match mapM' int64Of cs with
        | some ns => (minmax true ns).map fun n => .one (.v (.int .i64) n)
        | none => none
      | _, _ => none
    | _ => none
  | _ => none

variable {R : Type}

def loadOp (t : TypeId) (st : St) (a : L) (K : C → Option R) : Option R :=
  match sizeT P t with
  | none => none
  | some n => match a with
    | .box k off => match lookO st.objs k with
      | some (.cells ls) => bif Nat.ble (off + n) ls.length then (match wrapT P t ((ls.drop off).take n) with | some c => K c | none => none) else none
      | _ => none
    | .velt s xs i off => bif Nat.ble (off + n) s.n then eltC xs i fun x => (match wrapT P t (((toL s x).drop off).take n) with | some c => K c | none => none) else none
    | .elt k i off => match lookO st.objs k with
      | some (.slice s xs) => bif Nat.ble (off + n) s.n then eltC xs i fun x => (match wrapT P t (((toL s x).drop off).take n) with | some c => K c | none => none) else none
      | _ => none
    | _ => none

def indexAddrOp (t : TypeId) (st : St) (x : C) (i : Int) (K : C → Option R) : Option R :=
  match x with
  | .one (.v (.slice s) xs) => match elemT P t with
    | some e => bif decide (sizeT P e = some s.n) then guardC (0 ≤ i ∧ i < (xs.length : Int)) (K (.one (.velt s xs i 0))) else none
    | none => none
  | .one (.sl k) => match elemT P t, lookO st.objs k with
    | some e, some (.slice s xs) => bif decide (sizeT P e = some s.n) then guardC (0 ≤ i ∧ i < (xs.length : Int)) (K (.one (.elt k i 0))) else none
    | _, _ => none
  | .one (.box k off) => match arrT P t with
    | some (n, e) => match sizeT P e with
      | some sz => bif decide (2 ≤ n) then guardC (0 ≤ i ∧ i < (n : Int)) (K (.one (.box k (off + i.toNat * sz)))) else none
      | none => none
    | none => none
  | _ => none

def indexOp (t : TypeId) (st : St) (x : C) (i : Int) (K : C → Option R) : Option R :=
  match x with
  | .one (.v .str s) => bif isStrT P t then guardC (0 ≤ i ∧ i < (ByteArray.size s : Int)) (bytC s i fun b => K (.one (.v (.int .u8) b))) else none
  | .agg ls => match arrT P t with
    | some (n, e) => match sizeT P e, shapeOf P depthT e with
      | some sz, some s => match mapM' (fun j => ofL st.objs s ((ls.drop (j * sz)).take sz)) (List.range n) with
        | some xs => bif decide (s.n = sz) && Nat.beq ls.length (n * sz) && !s.hasSl then guardC (0 ≤ i ∧ i < (n : Int)) (eltC xs i fun x => (match wrapT P e (toL s x) with | some c => K c | none => none)) else none
        | none => none
      | _, _ => none
    | none => none
  | _ => none

/-- a slice against nil: of one without elements nothing is known -/
def nilC (objs : Objs) (neg : Bool) (l : L) (K : C → Option R) : Option R :=
  match l with
  | .nils => K (.one (bif neg then .ff else .tt))
  | .v (.slice _) xs => brC (List.isEmpty xs) (agreeC (K (.one (bif neg then .ff else .tt))) (K (.one (bif neg then .tt else .ff)))) (K (.one (bif neg then .tt else .ff)))
  | .sl k => match lookO objs k with
    | some (.slice _ xs) => brC (List.isEmpty xs) (agreeC (K (.one (bif neg then .ff else .tt))) (K (.one (bif neg then .tt else .ff)))) (K (.one (bif neg then .tt else .ff)))
    | _ => none
  | _ => none

/-- operations that write nothing and make nothing -/
def readOp (st : St) (K : C → Option R) : Op → Option R
  | .pick c a b => match evalO st.α c with
    | .one .tt => K (evalO st.α a)
    | .one .ff => K (evalO st.α b)
    | .one (.v .bool t) => brC t (K (evalO st.α a)) (K (evalO st.α b))
    | _ => none
  | .load t a => match evalO st.α a with
    | .one l => loadOp P t st l K
    | _ => none
  | .indexAddr t x i => match intOf' (evalO st.α i) with
    | some i => indexAddrOp P t st (evalO st.α x) i K
    | none => none
  | .index t x i => match intOf' (evalO st.α i) with
    | some i => indexOp P t st (evalO st.α x) i K
    | none => none
  | .binOp .quo xT x y _ => match evalO st.α x, evalO st.α y with
    | .one (.v (.int k) a), .one (.v (.int k') b) => bif decide (k = k') then guardC ((b : Int) ≠ 0) (K (.one (.v (.int k) (k.wrap (Int.tdiv a b))))) else none
    | _, _ => none
  | .binOp .rem xT x y _ => match evalO st.α x, evalO st.α y with
    | .one (.v (.int k) a), .one (.v (.int k') b) => bif decide (k = k') then guardC ((b : Int) ≠ 0) (K (.one (.v (.int k) (Int.tmod a b)))) else none
    | _, _ => none
  | .binOp .eql xT x y z => match evalO st.α x, evalO st.α y with
    | .one l, .one .nils => bif (elemT P xT).isSome then nilC st.objs false l K else none
    | _, _ => match pureOp P st (.binOp .eql xT x y z) with
      | some c => K c
      | none => none
  | .binOp .neq xT x y z => match evalO st.α x, evalO st.α y with
    | .one l, .one .nils => bif (elemT P xT).isSome then nilC st.objs true l K else none
    | _, _ => match pureOp P st (.binOp .neq xT x y z) with
      | some c => K c
      | none => none
  | .binOp .add xT x y z => match evalO st.α x, evalO st.α y with
    | .one (.v .str a), .one (.v .str b) => guardC (ByteArray.size a + ByteArray.size b ≤ 9223372036854775807) (K (.one (.v .str (ByteArray.append a b))))
    | _, _ => match pureOp P st (.binOp .add xT x y z) with
      | some c => K c
      | none => none
  | .slice t x lo hi none => match evalO st.α x, optInt st.α lo, optInt st.α hi with
    | .one (.v .str s), some lo, some hi => bif isStrT P t then guardC (0 ≤ lo.getD 0 ∧ lo.getD 0 ≤ hi.getD (ByteArray.size s : Int) ∧ hi.getD (ByteArray.size s : Int) ≤ (ByteArray.size s : Int)) (K (.one (.v .str (ByteArray.extract s (lo.getD 0).toNat (hi.getD (ByteArray.size s : Int)).toNat)))) else none
    | .one (.v (.slice s) xs), some lo, some hi => match elemT P t with
      | some e => bif decide (sizeT P e = some s.n) then guardC (0 ≤ lo.getD 0 ∧ lo.getD 0 ≤ hi.getD (List.length xs : Int) ∧ hi.getD (List.length xs : Int) ≤ (List.length xs : Int))
          (K (.one (.v (.slice s) ((List.take (hi.getD (List.length xs : Int)).toNat xs).drop (lo.getD 0).toNat)))) else none
      | none => none
    | _, _, _ => none
  | op => match pureOp P st op with
    | some c => K c
    | none => none

def isTemp : Key → Bool
  | .loc _ | .sub _ _ | .res _ => true
  | _ => false

/-- one leaf of cells that are to be put into an object: a slice of the function's own is named by where it lies; an empty slice is one of its own -/
def settleL (kb : Key) (off i n : Nat) (t : TypeId) (st : St) : St :=
  match (getS st.α i).leaves[n]? with
  | some (.sl k) => bif isTemp k && !keyB k (.fld kb off) then st.rename k (.fld kb off) else st
  | some .nils => match (elemT P t).bind (shapeOf P depthT) with
    | some s => bif Nat.blt 0 s.n then (let st' := st.new (.fld kb off) (.slice s []); ⟨st'.α.set i (setL n (.sl (.fld kb off)) (getS st'.α i)), st'.objs⟩) else st
    | none => st
  | _ => st
def settleLs (kb : Key) (i : Nat) : Nat → Nat → List TypeId → St → St
  | _, _, [], st => st
  | off, n, t :: ts, st => settleLs kb i (off + 1) (n + 1) ts (settleL P kb off i n t st)
def settle (kb : Key) (off : Nat) (ts : List TypeId) (ls : List L) (st : St) : Option (List L × St) :=
  let i := st.α.length
  let st2 := settleLs P kb i off 0 ts ⟨st.α ++ [.agg ls], st.objs⟩
  match getS st2.α i with
  | .agg ls' => some (ls', ⟨st2.α.take i, st2.objs⟩)
  | _ => none

/-- a value all of whose cells are known to be cells -/
def C.solid : C → Bool
  | .one .dead => false
  | .tup _ => false
  | _ => true

def storeOp (t : TypeId) (st : St) (a : L) (c : C) (K : C → St → Option R) : Option R :=
  match sizeT P t, leafT P depthT t with
  | some n, some ts => bif c.solid && Nat.beq c.cells.length n then (match a with
    | .box k off => match settle P k off ts c.cells st with
      | some z => match lookO z.2.objs k with
        | some (.cells ls) => bif Nat.ble (off + n) ls.length then K (.one .dead) ⟨z.2.α, setO z.2.objs k (.cells (spliceL ls off z.1))⟩ else none
        | _ => none
      | none => none
    | .elt k i off => match lookO (st.freezes (slKeys c.cells)).objs k with
      | some (.slice s xs) => bif Nat.ble (off + n) s.n then eltC xs i fun x => match ofL st.objs s (spliceL (toL s x) off c.cells) with
          | some y => K (.one .dead) ⟨(st.freezes (slKeys c.cells)).α, setO (st.freezes (slKeys c.cells)).objs k (.slice s (xs.set i.toNat y))⟩
          | none => none
        else none
      | _ => none
    | _ => none) else none
  | _, _ => none

/-- a slice's object becomes another slice, perhaps elsewhere: one that came in gets another name -/
def turnTo (dst : Nat) (k : Key) (s : Sh) (xs : List (Val s)) (st : St) : Key × St :=
  bif isImp k then (.loc dst, (st.rename k (.loc dst)).turn (.loc dst) (.slice s xs)) else (k, st.turn k (.slice s xs))

def appendOp (e : TypeId) (dst : Nat) (st : St) (a b : L) (K : C → St → Option R) : Option R :=
  match bytesT P e, shapeOf P depthT e, zeroOf P e with
  | some by_, some s, some z => bif Nat.blt 0 by_ && Nat.blt 0 s.n && decide (sizeT P e = some s.n) && Nat.beq z.cells.size s.n then (match ofL st.objs (.slice s) [b] with
    | some ys => match a with
      | .sl k => match lookO st.objs k with
        | some (.slice s' xs) => match castV (.slice s') (.slice s) xs with
          | some xs => bif (slKeys [b]).any (keyB k) then none else
            let z := turnTo dst k s (List.append xs ys) st
            guardC ((List.length xs + List.length ys) * by_ ≤ 140737488355328) (K (.one (.sl z.1)) z.2)
          | none => none
        | _ => none
      | .nils => guardC (List.length ys * by_ ≤ 140737488355328) (K (.one (.sl (.loc dst))) (st.new (.loc dst) (.slice s ys)))
      | _ => none
    | none => none) else none
  | _, _, _ => none

def sliceOwn (pop : Bool) (dst : Nat) (t : TypeId) (st : St) (k : Key) (lo hi : Option Int) (K : C → St → Option R) : Option R :=
  match elemT P t, lookO st.objs k with
  | some e, some (.slice s xs) => bif decide (sizeT P e = some s.n) then
      guardC (0 ≤ lo.getD 0 ∧ lo.getD 0 ≤ hi.getD (xs.length : Int) ∧ hi.getD (xs.length : Int) ≤ (xs.length : Int))
        (bif pop && lo.isNone then (let z := turnTo dst k s (xs.take (hi.getD (xs.length : Int)).toNat) st; K (.one (.sl z.1)) z.2)
         else K (.one (.v (.slice s) ((xs.take (hi.getD (xs.length : Int)).toNat).drop (lo.getD 0).toNat))) (st.freeze k)) else none
  | _, _ => none

def sliceLike (objs : Objs) : C → Bool
  | .one (.v (.slice _) _) => true
  | .one .nils => true
  | .one (.sl k) => match lookO objs k with
    | some (.slice _ _) => true
    | _ => false
  | _ => false
/-- s[:0:0]: a slice that nothing fits in -/
def emptyOp (dst : Nat) (t : TypeId) (st : St) (c : C) (lo hi mx : Option Int) (K : C → St → Option R) : Option R :=
  match elemT P t with
  | some e => match shapeOf P depthT e with
    | some s => bif Nat.blt 0 s.n && decide (sizeT P e = some s.n) && decide (lo = none) && decide (hi = some 0) && decide (mx = some 0) && sliceLike st.objs c then
        K (.one (.sl (.loc dst))) (st.new (.loc dst) (.slice s [])) else none
    | none => none
  | none => none

/-- a variable is set: a slice of the function's own gets the variable's name -/
def assignOp (dst : Nat) (st : St) (c : C) (K : C → St → Option R) : Option R :=
  match c with
  | .one (.sl k) => bif isTemp k && !keyB k (.loc dst) then K (.one (.sl (.loc dst))) (st.rename k (.loc dst)) else K c st
  | c => K c st

def allocOp (dst : Nat) (t : TypeId) (st : St) (K : C → St → Option R) : Option R :=
  match zeroOf P t, leafT P depthT t with
  | some z, some ts => bif Nat.beq ts.length z.cells.size then
      let lo := zeroCells P true dst 0 ts z.cells.toList
      let st1 := lo.2.foldl (fun s p => s.new p.1 p.2) st
      K (.one (.box (.loc dst) 0)) (st1.new (.loc dst) (.cells lo.1)) else none
  | _, _ => none

def boxOp (dst : Nat) (t : TypeId) (st : St) (c : C) (K : C → St → Option R) : Option R :=
  match c, leafT P depthT t with
  | .tup _, _ => none
  | .one .dead, _ => none
  | c, some ts => bif Nat.beq ts.length c.cells.length then
      match settle P (.loc dst) 0 ts ((c.cells).map (L.kill (keyB (.loc dst)))) (st.drop (.loc dst)) with
      | some z => K (.one (.box (.loc dst) 0)) (z.2.new (.loc dst) (.cells (z.1.map (L.kill (keyB (.loc dst))))))
      | none => none
    else none
  | _, none => none

def buildOp (dst : Nat) (t : TypeId) (parts : List (Nat × C)) (st : St) (K : C → St → Option R) : Option R :=
  match P.underlying t, zeroOf P t, leafT P depthT t with
  | some (.struct fs), some z, some ts => bif Nat.beq ts.length z.cells.size && parts.all (fun p => p.2.solid) then
      match fs.toList.mapM (fun f => (P.info? f.type).map fun i => (f.offset, i.size)) with
      | some places => match fillL (fun i => places.toArray[i]?) (zeroCells P false dst 0 ts z.cells.toList).1 (parts.map fun p => (p.1, p.2.cells)) with
        | some ls => K (.agg ls) st
        | none => none
      | none => none
    else none
  | some (.array _ e), some z, some ts => match P.info? e with
    | some ie => bif Nat.beq ts.length z.cells.size && parts.all (fun p => p.2.solid) then
        match fillL (fun i => some (i * ie.size, ie.size)) (zeroCells P false dst 0 ts z.cells.toList).1 (parts.map fun p => (p.1, p.2.cells)) with
        | some ls => K (.agg ls) st
        | none => none
      else none
    | none => none
  | _, _, _ => none

def buildSliceOp (dst : Nat) (t : TypeId) (n : Nat) (inOrd : Bool) (parts : List C) (st : St) (K : C → St → Option R) : Option R :=
  match elemT P t with
  | some e => match shapeOf P depthT e, zeroOf P e with
    | some s, some z => bif inOrd && Nat.beq n parts.length && parts.all C.solid && decide (sizeT P e = some s.n) && Nat.blt 0 s.n && Nat.beq z.cells.size s.n && Nat.ble (n * s.n) 16777216 then
        (match mapM' (fun c : C => ofL st.objs s c.cells) parts with
        | some xs => K (.one (.sl (.loc dst))) ((st.freezes (parts.flatMap fun c => slKeys c.cells)).new (.loc dst) (.slice s xs))
        | none => none) else none
    | _, _ => none
  | none => none

def makeSliceOp (dst : Nat) (t : TypeId) (n c : Int) (st : St) (K : C → St → Option R) : Option R :=
  match elemT P t with
  | some e => match shapeOf P depthT e, bytesT P e, zeroOf P e with
    | some s, some by_, some z => bif decide (sizeT P e = some s.n) && Nat.blt 0 s.n && zeroFit s z.cells.toList then
        guardC (0 ≤ n ∧ n ≤ c ∧ c * by_ ≤ 140737488355328 ∧ c ≤ 140737488355328) (K (.one (.sl (.loc dst))) (st.new (.loc dst) (.slice s (List.replicate n.toNat (zeroV s))))) else none
    | _, _, _ => none
  | none => none

/-- an argument that a closure keeps -/
def compF : C → Bool × List L
  | .agg ls => (true, ls)
  | c => (false, c.cells)

def makeFuncOp (dst : Nat) (g : FuncId) (first caps : List C) (st : St) (K : C → St → Option R) : Option R :=
  bif (first ++ caps).any (fun c => match c with | .tup _ => true | .one .dead => true | _ => false) || caps.any (fun c => match c with | .one _ => false | _ => true) then none else
  let f : C → C := C.map (L.kill (keyB (.loc dst)))
  K (.one (.clo (.loc dst))) (st.new (.loc dst) (.clo g (first.map fun c => compF (f c)) (caps.flatMap fun c => (f c).cells)))

def callOp (f : FuncId) (dst : Nat) (st : St) (args : List C) (K : C → St → Option R) (X : TypeId → St → Option R) : Option R :=
  let s := send st.objs (H.byRef f) args
  let back (c : C) (o : Objs) : C × St :=
    let st0 := bif c.imm || o.any (fun q => q.2.imm) then st.freezes s.lent else st
    (c.map (L.ren (backR s.keys dst o)), receive st0 dst s.keys o)
  let fine (names : List Key) : Bool := apartK (names.map (backK s.keys dst))
  bif s.lent.any (fun k => s.keys.any (keyB k)) then none else
  match H.ret f with
  | none => match call f s.args s.objs with
    | some (.ret c o) => bif fine (o.map (·.1)) then K (back c o).1 (back c o).2 else none
    | some (.pan t o) => bif fine (o.map (·.1)) then X t (back (.one .dead) o).2 else none
    | none => none
  | some p => bif fine (p.os.map (·.1)) then (match p.pan with
    | none => callC p (call f s.args s.objs) fun x => let z := back (p.mk' x).1 (p.mk' x).2; K z.1 z.2
    | some os => bif fine (os.map (·.1)) then
        callXC p os (call f s.args s.objs) (fun x => let z := back (p.mk' x).1 (p.mk' x).2; K z.1 z.2) (fun t x => let z := back (.one .dead) (mkOs os x); X t z.2)
      else none) else none

/-- one operation -/
def opC (f : FuncId) (dst : Nat) (st : St) (K : C → St → Option R) (X : TypeId → St → Option R) : Op → Option R
  | .assign x => assignOp dst st (evalO st.α x) K
  | .alloc t => allocOp P dst t st K
  | .box t x => boxOp P dst t st (evalO st.α x) K
  | .store t a v => match evalO st.α a with
    | .one l => storeOp P t st l (evalO st.α v) K
    | _ => none
  | .build t parts => buildOp P dst t (parts.toList.map fun p => (p.1, evalO st.α p.2)) st K
  | .buildSlice t n parts => buildSliceOp P dst t n (inOrder 0 parts.toList) (parts.toList.map fun p => evalO st.α p.2) st K
  | .makeSlice t n c => match intOf' (evalO st.α n), intOf' (evalO st.α c) with
    | some n, some c => makeSliceOp P dst t n c st K
    | _, _ => none
  | .makeFunc (.func g) first caps => bif Nat.beq first.size 0 && Nat.beq caps.size 0 then K (.one (.fn g)) st else
      makeFuncOp dst g (first.toList.map (evalO st.α)) (caps.toList.map (evalO st.α)) st K
  | .slice t x lo hi none => match evalO st.α x, optInt st.α lo, optInt st.α hi with
    | .one (.sl k), some lo, some hi => sliceOwn P (H.pop f dst) dst t st k lo hi K
    | _, _, _ => readOp P st (fun c => K c st) (.slice t x lo hi none)
  | .slice t x lo hi (some mx) => match optInt st.α lo, optInt st.α hi, optInt st.α (some mx) with
    | some lo, some hi, some mx => emptyOp P dst t st (evalO st.α x) lo hi mx K
    | _, _, _ => none
  | .panic x => match evalO st.α x with
    | .one (.ifc t) => X t st
    | _ => none
  | .call c => match c.callee with
    | .value x => match evalO st.α x with
      | .one (.fn g) => callOp H call g dst st (c.args.toList.map (evalO st.α)) K X
      | .one (.clo k) => match lookO st.objs k with
        | some (.clo g first caps) => callOp H call g dst st ((first.map fun p => wrapC p.1 p.2) ++ c.args.toList.map (evalO st.α) ++ caps.map .one) K X
        | _ => none
      | _ => none
    | .builtin .append => match c.args.toList.map (evalO st.α), c.argTypes[0]?, c.argTypes[1]? with
      | [.one a, .one b], some t, some t' => bif Nat.beq t t' then (match elemT P t with
          | some e => appendOp P e dst st a b K
          | none => none) else none
      | _, _, _ => none
    | _ => readOp P st (fun c => K c st) (.call c)
  | op => readOp P st (fun c => K c st) op

/-- the guard of an operation: the slot that is asked, and the wanted answer -/
def guardOf (ops : List Oper) (o : Oper) : Option (Nat × Bool) :=
  match o.guard with
  | none => none
  | some (j, want) => match (ops[j]?).bind (·.dst) with
    | some d => some (d, want)
    | none => none

/-- an operation in its place: is it run, or skipped? -/
def stepWith (run skip : St → Option R) (all : List Oper) (o : Oper) (st : St) : Option R :=
  match o.guard with
  | none => run st
  | some _ => match guardOf all o with
    | none => none
    | some (d, want) => match getS st.α d with
      | .one .tt => bif want then run st else skip st
      | .one .ff => bif want then skip st else run st
      | .tup [] => skip st
      | .one (.v .bool b) => brC b ((bif want then run else skip) ⟨st.α.set d (.one .tt), st.objs⟩) ((bif want then skip else run) ⟨st.α.set d (.one .ff), st.objs⟩)
      | _ => none
def stepC (f : FuncId) (all : List Oper) (o : Oper) (st : St) (K : St → Option R) (X : TypeId → St → Option R) : Option R :=
  stepWith (fun st => opC P H call f (o.dst.getD 0) st (fun c st' => K (st'.put o.dst c)) X o.op) (fun st => K (st.put o.dst (.tup []))) all o st

/-! ### regions whose order is drawn: reads go ahead, else there has to be one operation alone -/
def memN (i : Nat) (l : List Nat) : Bool := l.any (Nat.beq i)
def readyB (done : List Nat) (p : Nat × Oper) : Bool := !memN p.1 done && p.2.after.toList.all fun e => !Region.binds .any e || memN e.on done
def zipN : Nat → List Oper → List (Nat × Oper)
  | _, [] => []
  | n, o :: r => (n, o) :: zipN (n + 1) r
def aheadOp : Op → Bool
  | .alloc _ | .box .. | .store .. | .buildSlice .. | .makeSlice .. | .makeFunc .. | .panic _ => false
  | .slice _ _ _ _ (some _) => false
  | .call c => match c.callee with
    | .builtin .append => false
    | .builtin _ => true
    | _ => false
  | _ => true
/-- those that cannot come ahead of i -/
def blockB (l : List (Nat × Oper)) (i : Nat) (_ : Nat) (B : List Nat) : List Nat :=
  l.foldl (fun B p => bif p.2.after.toList.any (fun e => Region.binds .any e && (Nat.beq e.on i || memN e.on B)) then p.1 :: B else B) B
def isLoad : Op → Bool
  | .load .. => true
  | _ => false
/-- operations that may only add to memory -/
def growKind : Op → Bool
  | .store .. => false
  | .slice _ _ _ _ (some _) => false
  | .call c => match c.callee with
    | .builtin .append => false
    | _ => true
  | _ => true
/-- slots that hold a slice which was made in this region -/
def freshApp (ds : List Nat) : Op → Bool
  | .call c => match c.callee with
    | .builtin .append => match c.args[0]? with
      | some (Operand.tmp t) => memN t ds
      | _ => false
    | _ => false
  | _ => false
def isBuildSl : Op → Bool
  | .buildSlice .. => true
  | _ => false
def dropN (ds : List Nat) : Option Nat → List Nat
  | some d => ds.filter fun i => !Nat.beq i d
  | none => ds
def nextDs (ds : List Nat) (o : Oper) : List Nat := match o.dst with
  | some d => bif isBuildSl o.op || freshApp ds o.op then d :: ds else dropN ds (some d)
  | none => ds
def dsAll (l : List (Nat × Oper)) : List Nat := l.foldl (fun ds p => nextDs ds p.2) []
def pickN (z : Bool) (done : List Nat) (l : List (Nat × Oper)) : Option (Nat × Oper) :=
  (l.filter (readyB done)).find? fun p => aheadOp p.2.op && (!isLoad p.2.op || l.all fun q => memN q.1 done || Nat.beq q.1 p.1 || growKind q.2.op || (z && freshApp (dsAll l) q.2.op) || memN q.1 (blockB l p.1 l.length []))
/-- those of which growth is wanted, by loads at the beginning or later -/
def needF (l : List (Nat × Oper)) (z0 : Bool) : Nat → Bool → List Nat → List Nat
  | 0, _, _ => []
  | n + 1, z, done => match pickN z done l with
    | some (i, o) => bif isLoad o.op && (z == z0) then (l.filter fun p => !memN p.1 done && !Nat.beq p.1 i && !memN p.1 (blockB l i l.length [])).map (·.1) ++ needF l z0 n z (i :: done) else needF l z0 n z (i :: done)
    | none => match l.filter (readyB done) with
      | [] => []
      | p :: _ => needF l z0 n false (p.1 :: done)
/-- may i go ahead of all that is not behind it? -/
def okAhead (ops : Array Oper) (l : List (Nat × Oper)) (F B done : List Nat) (i : Nat) (o : Oper) : Bool :=
  l.all fun p => memN p.1 done || Nat.beq p.1 i || (bif memN p.1 B then p.2.after.toList.any (fun e => Region.binds .any e && (Nat.beq e.on i || memN e.on B)) else o.apart ops p.2 && (!isLoad o.op || memN p.1 F))
def okBlock (B done : List Nat) : Bool := B.all fun j => !memN j done
def noSelect (l : List (Nat × Oper)) : Bool := l.all fun p => match p.2.op with
  | .select _ _ => false
  | _ => true
/-- an operation that only adds to memory -/
def bareCall (st : St) (c : Go.Call) : Bool := match c.callee with
  | .value x => match evalO st.α x with
    | .one (.fn g) => (send st.objs (H.byRef g) (c.args.toList.map (evalO st.α))).keys.isEmpty
    | .one (.clo k) => match lookO st.objs k with
      | some (.clo g first caps) => (send st.objs (H.byRef g) ((first.map fun p => wrapC p.1 p.2) ++ c.args.toList.map (evalO st.α) ++ caps.map .one)).keys.isEmpty
      | _ => false
    | _ => false
  | _ => false
def growsB (st : St) : Op → Bool
  | .alloc _ | .box .. | .buildSlice .. | .makeSlice .. | .makeFunc (.func _) _ _ | .panic _ => true
  | .assign _ | .build .. | .move _ | .pick .. | .load .. | .nilCheck _ | .binOp .. | .unOp .. | .convert .. | .fieldAddr .. | .field .. | .indexAddr .. | .index .. | .makeInterface .. | .extract .. => true
  | .slice _ x _ _ none => match evalO st.α x with
    | .one (.v _ _) => true
    | _ => false
  | .call c => match c.callee with
    | .value _ => bareCall H st c
    | .builtin .append => false
    | .builtin _ => true
    | _ => false
  | _ => false
def runA (dst : Nat) (st : St) (K : C → St → Option R) : Op → Option R
  | .assign x => assignOp dst st (evalO st.α x) K
  | .build t parts => buildOp P dst t (parts.toList.map fun p => (p.1, evalO st.α p.2)) st K
  | op => readOp P st (fun c => K c st) op
def stepA (all : List Oper) (o : Oper) (st : St) (K : St → Option R) : Option R :=
  stepWith (fun st => runA P (o.dst.getD 0) st (fun c st' => K (st'.put o.dst c)) o.op) (fun st => K (st.put o.dst (.tup []))) all o st
/-- the slots are forgotten -/
def St.forget (st : St) : St := ⟨st.α.map fun _ => .one .dead, st.objs⟩

def stepD (F0 F1 : List Nat) (pf : Bool) (ds : List Nat) (i : Nat) (f : FuncId) (all : List Oper) (o : Oper) (st : St) (K : Bool → St → Option R) (X : TypeId → St → Option R) : Option R :=
  stepWith (fun st => bif (growsB H st o.op || !memN i F1) && (growsB H st o.op || (pf && freshApp ds o.op) || !memN i F0) then
    opC P H call f (o.dst.getD 0) st (fun c st' => K (pf && (growsB H st o.op || freshApp ds o.op)) (st'.put o.dst c)) X o.op else none) (fun st => K pf (st.put o.dst (.tup []))) all o st

def agreeL : List (Option R) → Option R
  | [] => none
  | [x] => x
  | x :: y :: r => agreeC x (agreeL (y :: r))

def drawC (f : FuncId) (ops : Array Oper) (l : List (Nat × Oper)) (F0 F1 : List Nat) : Nat → Bool → Bool → List Nat → List Nat → St → (St → Option R) → (TypeId → St → Option R) → Option R
  | 0, _, _, _, done, st, K, _ => bif l.any (readyB done) then none else K st
  | n + 1, z, pf, ds, done, st, K, X => match pickN z done l with
    | some (i, o) => bif okAhead ops l (bif z then F0 else F1) (blockB l i l.length []) done i o && okBlock (blockB l i l.length []) done then
        stepA P ops.toList o st (fun st' => drawC f ops l F0 F1 n z pf (dropN ds o.dst) (i :: done) st' K X) else none
    | none => match l.filter (readyB done) with
      | [] => K st
      | p :: r => agreeL ((p :: r).map fun p => stepD P H call F0 F1 pf ds p.1 f ops.toList p.2 st (fun pf' st' => drawC f ops l F0 F1 n false pf' (nextDs ds p.2) (p.1 :: done) st' K X) X)
def drawAll (f : FuncId) (ops : Array Oper) (st : St) (K : St → Option R) (X : TypeId → St → Option R) : Option R :=
  drawC P H call f ops (zipN 0 ops.toList) (needF (zipN 0 ops.toList) true ops.size true []) (needF (zipN 0 ops.toList) false ops.size true []) ops.size true true [] [] st K X

def opsC (f : FuncId) (all : List Oper) : List Oper → St → (St → Option R) → (TypeId → St → Option R) → Option R
  | [], st, K, _ => K st
  | o :: rest, st, K, X => stepC P H call f all o st (fun st' => opsC f all rest st' K X) X

def firstReg : Code → Nat
  | .region id _ _ => id
  | .seq a _ => firstReg a
  | .block _ b => firstReg b
  | .loop b => firstReg b
  | .scope b => firstReg b
  | _ => 0

/-- a loop that is run as it is -/
def unrollC (body : St → (Ex → St → Option R) → Option R) : Nat → St → (Ex → St → Option R) → Option R
  | 0, _, _ => none
  | n + 1, st, K => body st fun e st' => match e with
    | .normal => unrollC body n st' K
    | e => K e st'

def codeC (f : FuncId) (k : Nat) : {R : Type} → Code → St → (Ex → St → Option R) → Option R
  | _, .skip, st, K => K .normal st
  | _, .region id ops draw, st, K => bif draw then (bif P.follows .mixedOrders && noSelect (zipN 0 ops.toList) then (match H.loop f (id + 100000) with
      | some (p, _) => loopC (drawAll P H call f ops st (fun s => p.un (fit p.os p.slots s)) (fun _ _ => none)) fun x => K .normal (p.mk' x)
      | none => drawAll P H call f ops st (fun s => K .normal s) (fun t s => K (.pan t) s.forget)) else none)
    else opsC P H call f ops.toList ops.toList st (fun s => K .normal s) (fun t s => K (.pan t) s)
  | _, .seq a b, st, K => codeC f k a st fun e st' => match e with
    | .normal => codeC f k b st' K
    | e => K e st'
  | _, .cond c a b, st, K => match c with
    | .tmp d => match getS st.α d with
      | .one .tt => codeC f k a st K
      | .one .ff => codeC f k b st K
      | .one (.v .bool t) => brC t (codeC f k a ⟨st.α.set d (.one .tt), st.objs⟩ K) (codeC f k b ⟨st.α.set d (.one .ff), st.objs⟩ K)
      | _ => none
    | _ => none
  | _, .block id b, st, K => codeC f k b st fun e st' => match e with
    | .exit id' => bif Nat.beq id' id then K .normal st' else K (.exit id') st'
    | e => K e st'
  | _, .loop b, st, K => match H.loop f (firstReg b) with
    | some (p, xs) => match p.un (fit p.os p.slots st) with
      | some x => loopC (iterC (fun x => codeC f k b (p.mk' x) fun e st => match e with
          | .normal => (p.un (fit p.os p.slots st)).map .inl
          | e => (unX xs e st).map .inr) k x) fun z => onX xs z K
      | none => none
    | none => unrollC (fun st K => codeC f k b st K) k st K
  | _, .exit id, st, K => K (.exit id) st
  | _, .ret, st, K => K .ret st
  | _, _, _, _ => none

def resOne (st : St) : ResultVar → Option C
  | .tmp t => some (getS st.α t)
  | .cell a t => match getS st.α a with
    | .one l => loadOp P t st l some
    | _ => none
/-- a component of a tuple -/
def compC : C → Option (Bool × List L)
  | .one .dead => none
  | .one l => some (false, [l])
  | .agg ls => some (true, ls)
  | .tup _ => none
def resC (st : St) (rs : List ResultVar) : Option C := match mapM' (resOne P st) rs with
  | some [c] => some c
  | some cs => (mapM' compC cs).map .tup
  | none => none

def normL : L → L
  | .tt => .v .bool true
  | .ff => .v .bool false
  | .velt .. => .dead
  | .elt .. => .dead
  | l => l

/-- the shape that a result gets, where none is told: all slices are lists -/
def plainP : C → CP
  | .one l => .one (plainL l)
  | .agg ls => .agg (ls.map plainL)
  | .tup cs => .tup (cs.map fun p => (p.1, p.2.map plainL))
where
  plainL : L → LP
    | .sl _ => .v (.slice .bool)
    | _ => .dead

/-- the result alone, in its shape -/
def leaveSt (p : Option RP) (st : St) (c : C) : St := match p with
  | some p => fit p.os [(0, p.c)] ⟨[c], st.objs⟩
  | none => fit [] [(0, plainP c)] ⟨[c], st.objs⟩
/-- the end of a call: the result, and the objects that it, or what came in, still reaches -/
def leave (p : Option RP) (st : St) (c : C) : C × Objs :=
  let st1 := leaveSt p st c
  let ks := reach st1.objs 64 (((getS st1.α 0).map normL).leaves.filterMap L.key ++ (st1.objs.map (·.1)).filter isImp) []
  let dead : Key → Bool := fun k => !ks.any (keyB k)
  (((getS st1.α 0).map normL).map (L.kill dead), mapO (fun l => (normL l).kill dead) (st1.objs.filter fun p => !dead p.1))

def bodyC (fid : FuncId) (f : Func) (k : Nat) (args : List C) (objs : Objs) : Option Res :=
  match f.body with
  | none => none
  | some c => codeC P H call fid k c ⟨args ++ List.replicate (f.ntmps - args.length) (.one .dead), objs⟩ fun e st => match e with
    | .exit _ => none
    | .pan t => some (.pan t (leave none st (.one .dead)).2)
    | _ => match resC P st f.results.toList with
      | some r => let z := leave (H.ret fid) st r; some (.ret z.1 z.2)
      | none => none
end

/-- functions by tables: what is told of them, or their bodies -/
def denF (P : Program) (H : Hints) (pr : FuncId → Option (List C → Objs → Option Res)) : Nat → Call
  | 0, _, _, _ => none
  | k + 1, f, args, objs => match pr f with
    | some p => p args objs
    | none => match P.funcs[f]? with
      | some fn => bif fn.name == "runtime.NumGoroutine" then none else bodyC P H (denF P H pr k) f fn k args objs
      | none => none

end
end Go.AI
