/- The evaluator. -/
import Derived.Test.YtdnfnjdkemohaaaGreatDoorAb27
namespace Go.Ab

mutual
def beqV : Value → Value → Bool
  | .bool a, .bool b => a == b
  | .int k n, .int k' m => decide (k = k') && decide (n = m)
  | .string a, .string b => a.data.toList == b.data.toList
  | .pointer none, .pointer none => true
  | .pointer (some ⟨b, o, none⟩), .pointer (some ⟨b', o', none⟩) => b == b' && o == o'
  | .slice none n e, .slice none n' e' => n == n' && e == e'
  | .slice (some ⟨b, o, none⟩) n e, .slice (some ⟨b', o', none⟩) n' e' => b == b' && o == o' && n == n' && e == e'
  | .map none, .map none => true
  | .map (some i), .map (some j) => i == j
  | .nilFunc, .nilFunc => true
  | .nilIface, .nilIface => true
  | .agg a, .agg b => beqA a b
  | .tuple a, .tuple b => beqA a b
  | _, _ => false
def beqA : Array Value → Array Value → Bool
  | ⟨l⟩, ⟨m⟩ => beqL l m
def beqL : List Value → List Value → Bool
  | [], [] => true
  | v :: l, u :: m => beqV v u && beqL l m
  | _, _ => false
end

inductive FEnt where
  | code (af : AFunc)
  | prim (p : List Value → Tr → Nat → Option (Value × Tr × Nat))

section
variable {R : Type}

abbrev KT (R : Type) := Tm → Tr → Nat → Option R
abbrev KF (R : Type) := Value → Tr → Nat → Option R
abbrev KC (R : Type) := AExit → Tm → Tr → Nat → Option R
abbrev Caller (R : Type) := Nat → List Value → Tr → Nat → KF R → Option R

def putK (h : Tr) (c : Nat) (ob : Ob) (k : Tr → Nat → Option R) : Option R :=
  Tr.setK (c + 1) h c (some ob) fun h => fNat (c + 1) fun c => k h c

def evEff (call : Caller R) (dst : Option Nat) (tm : Tm) (h : Tr) (c : Nat) (k : KT R) : Option Eff → Option R
  | none => none
  | some (.val v) => fVal v fun v => if wf c v = true then k (tm.put dst v) h c else none
  | some (.new ob mk) => fOb ob fun ob => if wfOb c ob = true then fVal (mk.val c) fun v => putK h c ob fun h c => k (tm.put dst v) h c else none
  | some (.wr id ob v) => fNat id fun id => fOb ob fun ob => fVal v fun v => if (wfOb c ob && wf c v) = true then Tr.setK (id + 1) h id (some ob) fun h => k (tm.put dst v) h c else none
  | some (.app er ob mk) => fOb ob fun ob => if wfOb c ob = true then fVal (mk.val c) fun v =>
      (match er with
      | none => putK h c ob fun h c => k (tm.put dst v) h c
      | some id => fNat id fun id => Tr.setK (id + 1) h id none fun h => putK h c ob fun h c => k (tm.put dst v) h c) else none
  | some (.call f args) => fNat f fun f => fLst args fun args => if wfL c args = true then call f args h c fun v h c => k (tm.put dst v) h c else none

def evOps (call : Caller R) : List AOper → Tm → Tr → Nat → KT R → Option R
  | [], tm, h, c, k => k tm h c
  | o :: l, tm, h, c, k => match guardA tm o.guard with
    | some false => evOps call l (tm.put o.dst undef) h c k
    | some true => evEff call o.dst tm h c (fun tm h c => evOps call l tm h c k) (evalA h.hp tm o.op)
    | none => none

abbrev PendE := List (Nat × Tm × AOp × Value)

def recheck (bef : Nat → Nat → Bool) (i : Nat) (h : Tr) : PendE → Bool
  | [] => true
  | (j, tm, op, v) :: l => (bef j i || (match evalA h.hp tm op with | some (.val u) => beqV u v | _ => false)) && recheck bef i h l

def evOpsD (bef : Nat → Nat → Bool) (call : Caller R) : List (Nat × AOper) → PendE → Tm → Tr → Nat → KT R → Option R
  | [], _, tm, h, c, k => k tm h c
  | (i, o) :: l, p, tm, h, c, k => match guardA tm o.guard with
    | some false => evOpsD bef call l p (tm.put o.dst undef) h c k
    | some true => if isHeavy o.op then evEff call o.dst tm h c (fun tm h c => if recheck bef i h p = true then evOpsD bef call l p tm h c k else none) (evalA h.hp tm o.op)
      else if isLoad o.op then (match evalA h.hp tm o.op with
        | some (.val v) => fVal v fun v => if wf c v = true then evOpsD bef call l ((i, tm, o.op, v) :: p) (tm.put o.dst v) h c k else none
        | _ => none)
      else evEff call o.dst tm h c (fun tm h c => evOpsD bef call l p tm h c k) (evalA h.hp tm o.op)
    | none => none

def evRes (af : AFunc) (k : KF R) : KC R := fun e tm h c => match e with
  | .normal => (match resAs h.hp tm af.res with | some vs => fVal (resV vs) fun v => if wf c v = true then k v h c else none | none => none)
  | .ret => (match resAs h.hp tm af.res with | some vs => fVal (resV vs) fun v => if wf c v = true then k v h c else none | none => none)
  | _ => none

def evCall (E : Nat → Option FEnt) (body : ACode → Tm → Tr → Nat → KC R → Option R) : Caller R := fun f args h c k => match E f with
  | some (.code af) => if args.length ≤ af.n then body af.body (initTm 0 args) h c (evRes af k) else none
  | some (.prim p) => (match p args h c with | some (v, h, c) => k v h c | none => none)
  | none => none

def evC (E : Nat → Option FEnt) : Nat → ACode → Tm → Tr → Nat → KC R → Option R
  | 0, _, _, _, _, _ => none
  | n + 1, x, tm, h, c, k => match x with
    | .skip => k .normal tm h c
    | .label _ => k .normal tm h c
    | .exit i => k (.exit i) tm h c
    | .goto l => k (.goto l) tm h c
    | .ret => k .ret tm h c
    | .region ops live => evOps (evCall E (evC E n)) ops tm h c fun tm h c => k .normal (tm.keep live) h c
    | .regionD masks ops live => evOpsD (befM masks) (evCall E (evC E n)) ops [] tm h c fun tm h c => k .normal (tm.keep live) h c
    | .seq a b => evC E n a tm h c fun e tm h c => match e with
      | .normal => evC E n b tm h c k
      | e => k e tm h c
    | .cond x a b => (match aev h.hp tm x with
      | some (.bool t) => if t = true then evC E n a tm h c k else evC E n b tm h c k
      | _ => none)
    | .block i a => evC E n a tm h c fun e tm h c => match e with
      | .exit j => if j = i then k .normal tm h c else k (.exit j) tm h c
      | e => k e tm h c
    | .loop a => evC E n a tm h c fun e tm h c => match e with
      | .normal => evC E n (.loop a) tm h c k
      | e => k e tm h c
    | .scope l a r => evC E n a tm h c fun e tm h c => match e with
      | .goto l' => if l' = l then evC E n (.scope l r r) tm h c k else none
      | e => k e tm h c

def evF (E : Nat → Option FEnt) (n : Nat) (f : Nat) (args : List Value) (h : Tr) (c : Nat) (k : KF R) : Option R := evCall E (evC E n) f args h c k

end
end Go.Ab
