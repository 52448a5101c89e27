/- Regions that draw their order: one order is walked; whatever was loaded is asked again behind each operation that writes. -/
import Derived.Test.YtdnfnjdkemohaaaGreatDoorAb19
namespace Go.Ab

def isHeavy : AOp → Bool
  | .cSl _ | .store _ _ _ | .append _ _ _ _ | .copy _ _ _ | .mapSet _ _ _ _ | .mapEntry _ _ _ _ | .entrySet _ _ _ | .delete _ _ _ | .call _ _ => true
  | _ => false

def isAlloc : AOp → Bool
  | .new _ | .newB _ | .box _ | .buildSlice _ _ _ _ | .cBytes _ | .mkSlice _ _ _ _ _ | .mkMap => true
  | _ => false

/-- The operands of an operation. -/
def oprs : AOp → List AOpr
  | .mov x | .box x | .load _ _ x | .nilCheck x | .off _ x | .field _ _ _ x | .un _ x | .cInt _ x | .cStr x | .cBytes x | .cId x | .cSl x | .lenStr x | .lenSl x | .lenMap x | .extract x _ | .f64bits x => [x]
  | .pick c a b => [c, a, b]
  | .new _ | .newB _ | .mkMap | .lenC _ => []
  | .build _ ps => ps.map (·.2.2)
  | .buildSlice _ _ _ ps => ps.map (·.2.2)
  | .store _ a x | .idxPtr _ _ a x | .idxSl _ a x | .idxStr a x | .idxAgg _ _ _ a x | .bin _ a x | .eqB _ a x | .eqP _ a x | .eqN _ _ a x | .eqA _ _ a x | .mkSlice _ _ _ a x | .append _ _ a x
  | .copy _ a x | .lookup _ _ _ a x | .mapEntry _ _ a x | .delete _ a x | .idxByteStr a x => [a, x]
  | .mkFunc _ f c => f ++ c
  | .slStr x lo hi => x :: (lo.toList ++ hi.toList)
  | .slSl _ x lo hi mx => x :: (lo.toList ++ hi.toList ++ mx.toList)
  | .minmax _ xs => xs
  | .mapSet _ m k v => [m, k, v]
  | .entrySet m s v => [m, s, v]
  | .call f args => f :: args
  | .add64 x y c => [x, y, c]

def AOpr.isGlob : AOpr → Bool
  | .glob _ => true
  | _ => false

def AOpr.isTmp (t : Nat) : AOpr → Bool
  | .tmp u => u == t
  | _ => false

def isLoad (op : AOp) : Bool :=
  (match op with
   | .load _ _ _ | .cStr _ | .lenMap _ | .lookup _ _ _ _ _ => true
   | _ => false) || (!isHeavy op && (oprs op).any AOpr.isGlob)

/-- Does an operation look at a slot? -/
def looks (o : AOper) (t : Nat) : Bool := (oprs o.op).any (AOpr.isTmp t) || (match o.guard with | some (u, _) => u == t | none => false)

def RWD (P : Program) (bef : Nat → Nat → Bool) (K : Tm → Hp → Prop) : List (Nat × AOper) → List (Nat × (Hp → Prop)) → Tm → Hp → Prop
  | [], _, tm, H => K tm H
  | (i, o) :: l, pend, tm, H => match guardA tm o.guard with
    | some false => RWD P bef K l pend (tm.put o.dst undef) H
    | some true => ∃ eff, evalA H tm o.op = some eff ∧
      (if isHeavy o.op then effW P eff o.dst (fun tm' H' => (∀ p ∈ pend, bef p.1 i = false → p.2 H') ∧ RWD P bef K l pend tm' H') tm H
       else if isLoad o.op then effW P eff o.dst (RWD P bef K l ((i, fun H' => evalA H' tm o.op = some eff) :: pend)) tm H
       else effW P eff o.dst (RWD P bef K l pend) tm H)
    | none => False

def befM (masks : List Nat) (i j : Nat) : Bool := (masks.getD j 0).testBit i

/-- x stands ahead of y in the order that is walked; they may also run the other way round. -/
def compat (x y : AOper) : Bool :=
  (match x.dst with | some d => !(looks y d) && y.dst != some d | none => true) &&
  (match y.dst with | some d => !(looks x d) | none => true) &&
  !(isHeavy x.op && (isHeavy y.op || isLoad y.op)) && !(isAlloc x.op && (isHeavy y.op || isLoad y.op)) && !(isAlloc x.op && (oprs x.op).any AOpr.isGlob) && !(isAlloc y.op && (oprs y.op).any AOpr.isGlob)

def regOk (bef : Nat → Nat → Bool) : List (Nat × AOper) → Bool
  | [] => true
  | (i, x) :: l => !(bef i i) && l.all (fun q => !(bef q.1 i) && q.1 != i && (bef i q.1 || compat x q.2)) && regOk bef l

def cOrder (P : Program) (n : Nat) (ops : Array Oper) : List Nat → Option (List (Nat × AOper))
  | [] => some []
  | i :: l => match ops[i]? with
    | some o => match cOper P ops o, cOrder P n ops l with
      | some a, some m => if a.dst.all (fun d => decide (d < n)) = true then some ((i, a) :: m) else none
      | _, _ => none
    | none => none

/-- The mask of one operation: what has to stand ahead of it. -/
def maskOf (masks : List Nat) : List Edge → Nat
  | [] => 0
  | e :: l => if Region.binds .any e then 2 ^ e.on ||| masks.getD e.on 0 ||| maskOf masks l else maskOf masks l

def masksOk (ops : Array Oper) (masks : List Nat) : Bool :=
  masks.length == ops.size && (List.range ops.size).all fun j => match ops[j]? with
    | some o => masks.getD j 0 == maskOf masks o.after.toList && o.after.toList.all (fun e => !(Region.binds .any e) || decide (e.on < ops.size))
    | none => false

/-- A region that draws, turned: its operations in an order that serves. -/
def cRegD (P : Program) (n : Nat) (ops : Array Oper) (order : List Nat) (masks : List Nat) : Option (List (Nat × AOper)) :=
  if masksOk ops masks = true ∧ order.length = ops.size ∧ (∀ i ∈ List.range ops.size, i ∈ order) then
    match cOrder P n ops order with
    | some l => if regOk (befM masks) l = true then some l else none
    | none => none
  else none

end Go.Ab
