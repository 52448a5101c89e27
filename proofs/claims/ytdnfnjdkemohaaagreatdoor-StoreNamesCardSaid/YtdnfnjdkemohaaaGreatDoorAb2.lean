/- The abstract program: operations with their types resolved, what each does to an abstract heap, and how a Go function's code is turned into them. -/
import Derived.Test.YtdnfnjdkemohaaaGreatDoorAb1
import GoSem.Dispatch
namespace Go.Ab

inductive AOpr where
  | tmp (t : Nat)
  | con (v : Value)
  | glob (g : Nat)

inductive AOp where
  | mov (x : AOpr)
  | pick (c a b : AOpr)
  | new (zero : List Value)
  | newB (T : Nat)
  | box (x : AOpr)
  | build (zero : List Value) (parts : List (Nat × Nat × AOpr))
  | buildSlice (len size : Nat) (zero : List Value) (parts : List (Nat × Nat × AOpr))
  | load (agg : Bool) (n : Nat) (a : AOpr)
  | store (n : Nat) (a x : AOpr)
  | nilCheck (x : AOpr)
  | off (k : Nat) (a : AOpr)
  | field (agg : Bool) (o n : Nat) (x : AOpr)
  | idxPtr (len size : Nat) (a i : AOpr)
  | idxSl (size : Nat) (x i : AOpr)
  | idxStr (x i : AOpr)
  | idxAgg (agg : Bool) (len size : Nat) (x i : AOpr)
  | bin (op : BinOp) (x y : AOpr)
  | eqB (neg : Bool) (x y : AOpr)
  | eqP (neg : Bool) (x y : AOpr)
  | eqN (kd : Nat) (neg : Bool) (x y : AOpr)
  | eqA (neg : Bool) (ks : List Nat) (x y : AOpr)
  | un (op : UnOp) (x : AOpr)
  | cInt (k : IntKind) (x : AOpr)
  | cStr (x : AOpr)
  | cBytes (x : AOpr)
  | cId (x : AOpr)
  | cSl (x : AOpr)
  | mkFunc (fn : Fn) (first captured : List AOpr)
  | mkSlice (size bytes : Nat) (zero : List Value) (len cap : AOpr)
  | mkMap
  | slStr (x : AOpr) (lo hi : Option AOpr)
  | slSl (size : Nat) (x : AOpr) (lo hi mx : Option AOpr)
  | lenStr (x : AOpr)
  | lenSl (x : AOpr)
  | lenC (n : Nat)
  | lenMap (x : AOpr)
  | append (size bytes : Nat) (s x : AOpr)
  | copy (size : Nat) (d s : AOpr)
  | minmax (mx : Bool) (xs : List AOpr)
  | lookup (kd : Nat) (zero : Value) (ok : Bool) (m k : AOpr)
  | mapSet (kd : Nat) (m k v : AOpr)
  | mapEntry (kd : Nat) (zero : Value) (m k : AOpr)
  | entrySet (m s v : AOpr)
  | delete (kd : Nat) (m k : AOpr)
  | extract (x : AOpr) (i : Nat)
  | call (f : AOpr) (args : List AOpr)
  | f64bits (x : AOpr)
  | add64 (x y c : AOpr)
  | idxByteStr (s c : AOpr)

structure AOper where
  dst : Option Nat
  guard : Option (Nat × Bool)
  op : AOp

abbrev Tm := List (Nat × Value)

def Tm.get : Tm → Nat → Option Value
  | [], _ => none
  | (t, v) :: l, u => if u = t then some v else Tm.get l u

def Tm.put (tm : Tm) (d : Option Nat) (v : Value) : Tm :=
  match d with
  | some t => (t, v) :: tm
  | none => tm

def Tm.keep (tm : Tm) : List Nat → Tm
  | [] => []
  | t :: l => match Tm.get tm t with
    | some v => (t, v) :: Tm.keep tm l
    | none => Tm.keep tm l

/-- A constant that is the same in both worlds. -/
def flat : Value → Bool
  | .bool _ | .int _ _ | .float _ _ | .string _ | .pointer none | .slice none 0 0 | .map none | .nilFunc | .nilIface => true
  | .func _ f c => f.isEmpty && c.isEmpty
  | _ => false

def okConst : Value → Bool
  | .agg cs => cs.toList.all flat
  | .tuple cs => cs.toList.all flat
  | .iface _ v => flat v
  | v => flat v

def aev (H : Hp) (tm : Tm) : AOpr → Option Value
  | .tmp t => tm.get t
  | .con v => some v
  | .glob g => match H g with
    | some (.cells _ _) => some (.pointer (some ⟨g, 0, none⟩))
    | _ => none

def aevs (H : Hp) (tm : Tm) : List AOpr → Option (List Value)
  | [] => some []
  | x :: l => match aev H tm x, aevs H tm l with
    | some v, some vs => some (v :: vs)
    | _, _ => none

def cellsL : Value → List Value
  | .agg cs => cs.toList
  | v => [v]

/-- Cells written over from a place on. -/
def spl : List Value → Nat → List Value → List Value
  | c, _, [] => c
  | c, o, x :: xs => spl (c.set o x) (o + 1) xs

def fillA : List Value → List (Nat × Nat × Value) → Option (List Value)
  | c, [] => some c
  | c, (o, n, v) :: r => if (cellsL v).length = n ∧ o + n ≤ c.length then fillA (spl c o (cellsL v)) r else none

def aparts (H : Hp) (tm : Tm) : List (Nat × Nat × AOpr) → Option (List (Nat × Nat × Value))
  | [] => some []
  | (o, n, x) :: l => match aev H tm x, aparts H tm l with
    | some v, some vs => some ((o, n, v) :: vs)
    | _, _ => none

/-- A byte as a cell. -/
def ub (b : UInt8) : Value := .int .u8 (b.toNat : Int)

def bytesOf : List Value → Option (List UInt8)
  | [] => some []
  | .int .u8 n :: l => match bytesOf l with
    | some r => some (UInt8.ofNat n.toNat :: r)
    | none => none
  | _ => none

def str (l : List UInt8) : ByteArray := ⟨l.toArray⟩
def bl (s : ByteArray) : List UInt8 := s.data.toList

def bitA (k : IntKind) (x y : Int) (f : BitVec k.bits → BitVec k.bits → BitVec k.bits) : Value :=
  .int k (k.wrap (f (BitVec.ofInt k.bits x) (BitVec.ofInt k.bits y)).toNat)

def binI (op : BinOp) (k : IntKind) (x y : Int) : Option Value :=
  match op with
  | .add => some (.int k (k.wrap (x + y)))
  | .sub => some (.int k (k.wrap (x - y)))
  | .mul => some (.int k (k.wrap (x * y)))
  | .quo => if y = 0 then none else some (.int k (k.wrap (x.tdiv y)))
  | .rem => if y = 0 then none else some (.int k (x.tmod y))
  | .and => some (bitA k x y (· &&& ·))
  | .or => some (bitA k x y (· ||| ·))
  | .xor => some (bitA k x y (· ^^^ ·))
  | .andNot => some (bitA k x y fun a b => a &&& ~~~b)
  | .eql => some (.bool (x == y))
  | .neq => some (.bool (x != y))
  | .lss => some (.bool (decide (x < y)))
  | .leq => some (.bool (decide (x ≤ y)))
  | .gtr => some (.bool (decide (x > y)))
  | .geq => some (.bool (decide (x ≥ y)))
  | _ => none

def binStr (op : BinOp) (x y : ByteArray) : Option Value :=
  match op with
  | .add => if (bl x).length + (bl y).length ≤ 4611686018427387904 then some (.string (str (bl x ++ bl y))) else none
  | .eql => some (.bool (bl x == bl y))
  | .neq => some (.bool !(bl x == bl y))
  | .lss => some (.bool (Op.bytesLess (bl x) (bl y)))
  | .leq => some (.bool (Op.bytesLess (bl x) (bl y) || bl x == bl y))
  | .gtr => some (.bool !(Op.bytesLess (bl x) (bl y) || bl x == bl y))
  | .geq => some (.bool !(Op.bytesLess (bl x) (bl y)))
  | _ => none

def binF (op : BinOp) (k : FloatKind) (x y : Nat) : Option Value :=
  match op with
  | .eql => some (.bool (k.format.order x y == some .eq))
  | .neq => some (.bool (k.format.order x y != some .eq))
  | .lss => some (.bool (k.format.order x y == some .lt))
  | .gtr => some (.bool (k.format.order x y == some .gt))
  | _ => none

def binA (op : BinOp) (a b : Value) : Option Value :=
  match a, b with
  | .int k x, .int k' y =>
    match op with
    | .shl => if y < 0 then none else some (.int k (k.wrap (x * 2 ^ min y.toNat k.bits)))
    | .shr => if y < 0 then none else some (.int k (x.fdiv (2 ^ min y.toNat k.bits)))
    | op => if k = k' then binI op k x y else none
  | .string x, .string y => binStr op x y
  | .float k x, .float k' y => if k = k' then binF op k x y else none
  | _, _ => none

def unA (op : UnOp) (x : Value) : Option Value :=
  match op, x with
  | .neg, .int k n => some (.int k (k.wrap (0 - n)))
  | .xor, .int k n => some (bitA k (if k.signed then -1 else k.max) n (· ^^^ ·))
  | .not, .bool b => some (.bool !b)
  | _, _ => none

/-- Values of one kind compared: whole numbers (0), strings (1), bools (2). -/
def kEq : Nat → Value → Value → Option Bool
  | 0, .int k a, .int k' b => if k = k' then some (a == b) else none
  | 1, .string a, .string b => some (bl a == bl b)
  | 2, .bool a, .bool b => some (a == b)
  | _, _, _ => none

def kEqs : List Nat → List Value → List Value → Option Bool
  | [], [], [] => some true
  | k :: ks, a :: l, b :: m => match kEq k a b, kEqs ks l m with
    | some x, some y => some (x && y)
    | _, _ => none
  | _, _, _ => none

/-- A test against nil: of slices (0), maps (1), functions (2). -/
def nilT : Nat → Value → Value → Option Bool
  | 0, .slice none _ _, .slice b _ _ => some b.isNone
  | 0, .slice (some _) _ _, .slice none _ _ => some false
  | 1, .map none, .map b => some b.isNone
  | 1, .map (some _), .map none => some false
  | 2, .nilFunc, .nilFunc => some true
  | 2, .nilFunc, .func _ _ _ => some false
  | 2, .func _ _ _, .nilFunc => some false
  | _, _, _ => none

def bnot (neg b : Bool) : Bool := if neg then !b else b

def findA (kd : Nat) (k : Value) : List (Value × Value × Nat) → Option (Option (Nat × Value × Nat))
  | [] => some none
  | (k', v, b) :: l => match kEq kd k k' with
    | some true => some (some (0, v, b))
    | some false => match findA kd k l with
      | some (some (i, r)) => some (some (i + 1, r))
      | some none => some none
      | none => none
    | none => none

def isKey : Nat → Value → Bool
  | 0, .int _ _ | 1, .string _ => true
  | _, _ => false

def minA (mx : Bool) : Value → List Value → Option Value
  | v, [] => some v
  | .int k x, .int k' y :: l => if k = k' then minA mx (.int k (if mx then (if y > x then y else x) else (if y < x then y else x))) l else none
  | _, _ => none

inductive Mk where
  | ptr
  | slice (len e : Nat)
  | map

def Mk.val : Mk → Nat → Value
  | .ptr, i => .pointer (some ⟨i, 0, none⟩)
  | .slice len e, i => .slice (some ⟨i, 0, none⟩) len e
  | .map, i => .map (some i)

/-- What an operation does. -/
inductive Eff where
  | val (v : Value)
  | new (ob : Ob) (mk : Mk)
  | wr (id : Nat) (ob : Ob) (v : Value)
  | app (er : Option Nat) (ob : Ob) (mk : Mk)
  | call (f : FuncId) (args : List Value)

def oint (d : Int) (H : Hp) (tm : Tm) : Option AOpr → Option Int
  | none => some d
  | some x => match aev H tm x with
    | some (.int _ i) => some i
    | _ => none

/-- The cells of a slice's elements. -/
def slCells (H : Hp) (size : Nat) : Value → Option (List Value)
  | .slice none 0 0 => some []
  | .slice (some ⟨id, o, none⟩) n e => match H id with
    | some (.cells _ c) => if e = size ∧ o + n * size ≤ c.length then some ((c.drop o).take (n * size)) else none
    | _ => none
  | _ => none

def apCells (H : Hp) (size : Nat) : Value → Option (Nat × List Value)
  | .slice a n e => match slCells H size (.slice a n e) with
    | some c => some (n, c)
    | none => none
  | .string s => if size = 1 then some ((bl s).length, (bl s).map ub) else none
  | _ => none

def evalA (H : Hp) (tm : Tm) : AOp → Option Eff
  | .mov x => match aev H tm x with
    | some v => some (.val v)
    | none => none
  | .pick c a b => match aev H tm c with
    | some (.bool true) => (match aev H tm a with | some v => some (.val v) | none => none)
    | some (.bool false) => (match aev H tm b with | some v => some (.val v) | none => none)
    | _ => none
  | .new z => some (.new (.cells false z) .ptr)
  | .newB T => some (.new (.bld T (.pointer none) (.slice none 0 0)) .ptr)
  | .box x => match aev H tm x with
    | some v => if (cellsL v).all scalar then some (.new (.cells false (cellsL v)) .ptr) else none
    | none => none
  | .build z ps => match aparts H tm ps with
    | some vs => (match fillA z vs with | some c => some (.val (.agg c.toArray)) | none => none)
    | none => none
  | .buildSlice len size z ps => match aparts H tm ps with
    | some vs => (match fillA (List.replicate len z).flatten vs with
      | some c => if c.all scalar then some (.new (.cells false c) (.slice len size)) else none
      | none => none)
    | none => none
  | .load agg n a => match aev H tm a with
    | some (.pointer (some ⟨id, o, none⟩)) => (match H id with
      | some (.cells _ c) =>
        if agg then (if o + n ≤ c.length then some (.val (.agg ((c.drop o).take n).toArray)) else none)
        else (match c[o]? with | some v => some (.val v) | none => none)
      | some (.bld _ p s) => if agg then none else if o = 0 then some (.val p) else if o = 1 then some (.val s) else none
      | _ => none)
    | _ => none
  | .store n a x => match aev H tm a, aev H tm x with
    | some (.pointer (some ⟨id, o, none⟩)), some v => (match H id with
      | some (.cells false c) => if (cellsL v).length = n ∧ o + n ≤ c.length ∧ (cellsL v).all scalar then some (.wr id (.cells false (spl c o (cellsL v))) undef) else none
      | some (.bld T p _) => if n = 1 ∧ o = 1 ∧ scalar v = true then some (.wr id (.bld T p v) undef) else none
      | _ => none)
    | _, _ => none
  | .nilCheck x => match aev H tm x with
    | some (.pointer (some a)) => some (.val (.pointer (some a)))
    | some (.func (.func f) a b) => some (.val (.func (.func f) a b))
    | _ => none
  | .off k a => match aev H tm a with
    | some (.pointer (some ⟨id, o, none⟩)) => some (.val (.pointer (some ⟨id, o + k, none⟩)))
    | _ => none
  | .field agg o n x => match aev H tm x with
    | some (.agg cs) => if agg then some (.val (.agg ((cs.toList.drop o).take n).toArray)) else (match cs.toList[o]? with | some v => some (.val v) | none => none)
    | _ => none
  | .idxPtr len size a i => match aev H tm a, aev H tm i with
    | some (.pointer (some ⟨id, o, none⟩)), some (.int _ j) => if 0 ≤ j ∧ j < len then some (.val (.pointer (some ⟨id, o + j.toNat * size, none⟩))) else none
    | _, _ => none
  | .idxSl size x i => match aev H tm x, aev H tm i with
    | some (.slice (some ⟨id, o, none⟩) len e), some (.int _ j) => if 0 ≤ j ∧ j < len ∧ e = size then some (.val (.pointer (some ⟨id, o + j.toNat * size, none⟩))) else none
    | _, _ => none
  | .idxStr x i => match aev H tm x, aev H tm i with
    | some (.string s), some (.int _ j) => if 0 ≤ j then (match (bl s)[j.toNat]? with | some b => some (.val (ub b)) | none => none) else none
    | _, _ => none
  | .idxAgg agg len size x i => match aev H tm x, aev H tm i with
    | some (.agg cs), some (.int _ j) => if 0 ≤ j ∧ j < len then
        (if agg then some (.val (.agg ((cs.toList.drop (j.toNat * size)).take size).toArray)) else (match cs.toList[j.toNat * size]? with | some v => some (.val v) | none => none))
      else none
    | _, _ => none
  | .bin op x y => match aev H tm x, aev H tm y with
    | some a, some b => (match binA op a b with | some v => some (.val v) | none => none)
    | _, _ => none
  | .eqB neg x y => match aev H tm x, aev H tm y with
    | some (.bool a), some (.bool b) => some (.val (.bool (bnot neg (a == b))))
    | _, _ => none
  | .eqP neg x y => match aev H tm x, aev H tm y with
    | some (.pointer none), some (.pointer none) => some (.val (.bool (bnot neg true)))
    | some (.pointer none), some (.pointer (some _)) => some (.val (.bool (bnot neg false)))
    | some (.pointer (some _)), some (.pointer none) => some (.val (.bool (bnot neg false)))
    | some (.pointer (some ⟨i, o, none⟩)), some (.pointer (some ⟨j, p, none⟩)) => if i = j then some (.val (.bool (bnot neg (o == p)))) else none
    | _, _ => none
  | .eqN kd neg x y => match aev H tm x, aev H tm y with
    | some p, some q => (match nilT kd p q with | some r => some (.val (.bool (bnot neg r))) | none => none)
    | _, _ => none
  | .eqA neg ks x y => match aev H tm x, aev H tm y with
    | some (.agg a), some (.agg b) => (match kEqs ks a.toList b.toList with | some r => some (.val (.bool (bnot neg r))) | none => none)
    | _, _ => none
  | .un op x => match aev H tm x with
    | some a => (match unA op a with | some v => some (.val v) | none => none)
    | none => none
  | .cInt k x => match aev H tm x with
    | some (.int _ n) => some (.val (.int k (k.wrap n)))
    | _ => none
  | .cId x => match aev H tm x with
    | some (.string s) => some (.val (.string s))
    | _ => none
  | .cSl x => match aev H tm x with
    | some (.slice (some ⟨id, o, none⟩) n e) => (match H id with
      | some (.cells false c) => if n = 0 then none else some (.wr id (.cells false c) (.slice (some ⟨id, o, none⟩) n e))
      | _ => none)
    | _ => none
  | .cStr x => match aev H tm x with
    | some v => (match slCells H 1 v with
      | some c => (match bytesOf c with | some l => some (.val (.string (str l))) | none => none)
      | none => none)
    | none => none
  | .cBytes x => match aev H tm x with
    | some (.string s) => some (.new (.cells false ((bl s).map ub)) (.slice (bl s).length 1))
    | _ => none
  | .mkFunc fn first captured => match aevs H tm first, aevs H tm captured with
    | some a, some b => some (.val (.func fn a.toArray b.toArray))
    | _, _ => none
  | .mkSlice size bytes z len cap => match aev H tm len, aev H tm cap with
    | some (.int .i64 l), some (.int .i64 c) => if 0 ≤ l ∧ l ≤ c ∧ c * bytes ≤ 140737488355328 ∧ c ≤ 140737488355328 then
        some (.new (.cells false (List.replicate l.toNat z).flatten) (.slice l.toNat size)) else none
    | _, _ => none
  | .mkMap => some (.new (.map [] 0) .map)
  | .slStr x lo hi => match aev H tm x with
    | some (.string s) => (match oint (bl s).length H tm hi with
      | some h => (match oint 0 H tm lo with
        | some l => if 0 ≤ l ∧ l ≤ h ∧ h ≤ (bl s).length then some (.val (.string (str (((bl s).drop l.toNat).take (h.toNat - l.toNat))))) else none
        | none => none)
      | none => none)
    | _ => none
  | .slSl size x lo hi mx => match aev H tm x with
    | some (.slice none 0 0) => (match oint 0 H tm lo, oint 0 H tm hi, oint 0 H tm mx with
      | some 0, some 0, some 0 => some (.val (.slice none 0 0))
      | _, _, _ => none)
    | some (.slice (some ⟨id, o, none⟩) len e) => (match oint 0 H tm lo, oint len H tm hi, oint len H tm mx with
      | some l, some h, some m => if 0 ≤ l ∧ l ≤ h ∧ h ≤ m ∧ m ≤ len ∧ e = size then
          some (.val (.slice (some ⟨id, o + l.toNat * size, none⟩) (h.toNat - l.toNat) size)) else none
      | _, _, _ => none)
    | _ => none
  | .lenStr x => match aev H tm x with
    | some (.string s) => some (.val (.int .i64 (bl s).length))
    | _ => none
  | .lenSl x => match aev H tm x with
    | some (.slice _ n _) => some (.val (.int .i64 n))
    | _ => none
  | .lenC n => some (.val (.int .i64 n))
  | .lenMap x => match aev H tm x with
    | some (.map none) => some (.val (.int .i64 0))
    | some (.map (some id)) => (match H id with
      | some (.map es _) => some (.val (.int .i64 es.length))
      | _ => none)
    | _ => none
  | .append size bytes s x => match aev H tm s, aev H tm x with
    | some (.slice a n e), some y => (match slCells H size (.slice a n e), apCells H size y with
      | some c, some (k, d) =>
        if (n + k) * bytes ≤ 70368744177664 ∧ n + k ≤ 70368744177664 then
          (match a with
          | none => if k = 0 then some (.val (.slice none 0 0)) else some (.app none (.cells false d) (.slice k size))
          | some ⟨id, _, _⟩ => (match H id with
            | some (.cells false _) => some (.app (some id) (.cells false (c ++ d)) (.slice (n + k) size))
            | _ => none))
        else none
      | _, _ => none)
    | _, _ => none
  | .copy size d s => match aev H tm d, aev H tm s with
    | some (.slice a n e), some y => (match slCells H size (.slice a n e), apCells H size y with
      | some c, some (k, x) => (match a with
        | none => some (.val (.int .i64 0))
        | some ⟨id, o, _⟩ => (match H id with
          | some (.cells false all) => some (.wr id (.cells false (spl all o (x.take (c.length)))) (.int .i64 (min k n)))
          | _ => none))
      | _, _ => none)
    | _, _ => none
  | .minmax mx xs => match aevs H tm xs with
    | some (v :: l) => (match minA mx v l with | some r => some (.val r) | none => none)
    | _ => none
  | .lookup kd z ok m k => match aev H tm m, aev H tm k with
    | some (.map none), some kv => if isKey kd kv then some (.val (if ok then .tuple #[z, .bool false] else z)) else none
    | some (.map (some id)), some kv => if isKey kd kv then (match H id with
      | some (.map es _) => (match findA kd kv es with
        | some (some (_, v, _)) => some (.val (if ok then .tuple #[v, .bool true] else v))
        | some none => some (.val (if ok then .tuple #[z, .bool false] else z))
        | none => none)
      | _ => none) else none
    | _, _ => none
  | .mapSet kd m k v => match aev H tm m, aev H tm k, aev H tm v with
    | some (.map (some id)), some kv, some vv => if isKey kd kv then (match H id with
      | some (.map es cl) => (match findA kd kv es with
        | some (some (i, _, b)) => some (.wr id (.map (es.set i (kv, vv, b)) cl) undef)
        | some none => some (.wr id (.map (es ++ [(kv, vv, cl)]) (cl + 1)) undef)
        | none => none)
      | _ => none) else none
    | _, _, _ => none
  | .mapEntry kd z m k => match aev H tm m, aev H tm k with
    | some (.map (some id)), some kv => if isKey kd kv then (match H id with
      | some (.map es cl) => (match findA kd kv es with
        | some (some (i, v, b)) => some (.wr id (.map (es.set i (kv, v, b)) cl) (.tuple #[v, .int .i64 b]))
        | some none => some (.wr id (.map (es ++ [(kv, z, cl)]) (cl + 1)) (.tuple #[z, .int .i64 cl]))
        | none => none)
      | _ => none) else none
    | _, _ => none
  | .entrySet m s v => match aev H tm m, aev H tm s, aev H tm v with
    | some (.map (some id)), some (.int _ b), some vv => (match H id with
      | some (.map es cl) => (match es.findIdx? (fun e => (e.2.2 : Int) == b) with
        | some i => (match es[i]? with
          | some (k, _, c) => some (.wr id (.map (es.set i (k, vv, c)) cl) undef)
          | none => none)
        | none => none)
      | _ => none)
    | _, _, _ => none
  | .delete kd m k => match aev H tm m, aev H tm k with
    | some (.map (some id)), some kv => if isKey kd kv then (match H id with
      | some (.map es cl) => (match findA kd kv es with
        | some (some (i, _, _)) => some (.wr id (.map (es.eraseIdx i) cl) (.tuple #[]))
        | some none => some (.wr id (.map es cl) (.tuple #[]))
        | none => none)
      | _ => none) else none
    | _, _ => none
  | .extract x i => match aev H tm x with
    | some (.tuple vs) => (match vs.toList[i]? with | some v => some (.val v) | none => none)
    | _ => none
  | .call f args => match aev H tm f, aevs H tm args with
    | some (.func (.func g) first captured), some vs => some (.call g (first.toList ++ vs ++ captured.toList))
    | _, _ => none
  | .f64bits x => match aev H tm x with
    | some (.int .u64 n) => some (.val (.float .f64 n.toNat))
    | _ => none
  | .add64 x y c => match aev H tm x, aev H tm y, aev H tm c with
    | some (.int .u64 a), some (.int .u64 b), some (.int .u64 k) =>
      if k.toNat ≤ 1 then some (.val (.tuple #[.int .u64 (Int.ofNat ((a.toNat + b.toNat + k.toNat) % 18446744073709551616)), .int .u64 (Int.ofNat ((a.toNat + b.toNat + k.toNat) / 18446744073709551616))])) else none
    | _, _, _ => none
  | .idxByteStr s c => match aev H tm s, aev H tm c with
    | some (.string s), some (.int .u8 n) => some (.val (.int .i64 (match (bl s).findIdx? (fun b => b == UInt8.ofNat n.toNat) with | some i => (i : Int) | none => -1)))
    | _, _ => none

/-! How Go's code becomes abstract code. -/

def cOpr (P : Program) : Operand → Option AOpr
  | .tmp t => some (.tmp t)
  | .const v => if okConst v then some (.con v) else none
  | .global g => if g < P.globals.size then some (.glob g) else none
  | .func f => some (.con (.func (.func f) #[] #[]))

def cOprs (P : Program) : List Operand → Option (List AOpr)
  | [] => some []
  | x :: l => match cOpr P x, cOprs P l with
    | some y, some m => some (y :: m)
    | _, _ => none

def cOptOpr (P : Program) : Option Operand → Option (Option AOpr)
  | none => some none
  | some x => match cOpr P x with
    | some y => some (some y)
    | none => none

def isAggD : Option TypeDesc → Bool
  | some (.struct _) | some (.array _ _) => true
  | _ => false

def zeroL (P : Program) (t : TypeId) : Option (List Value) :=
  match P.info? t with
  | some i => match i.zero with
    | some z => if (cellsL z).all flat && (cellsL z).length == i.size then some (cellsL z) else none
    | none => none
  | none => none

def szOf (P : Program) (t : TypeId) : Option Nat := (P.info? t).map (·.size)

/-- The places of a literal's parts. -/
def cParts (P : Program) (place : Nat → Option (Nat × Nat)) : List (Nat × Operand) → Option (List (Nat × Nat × AOpr))
  | [] => some []
  | (i, x) :: l => match place i, cOpr P x, cParts P place l with
    | some (o, n), some y, some m => some ((o, n, y) :: m)
    | _, _, _ => none

def kindOf : Option TypeDesc → Option Nat
  | some (.int _) => some 0
  | some .string => some 1
  | some .bool => some 2
  | _ => none

def flatKinds (P : Program) : Nat → List Field → Option (List Nat)
  | _, [] => some []
  | i, f :: fs => if f.name ≠ "_" ∧ f.offset = i then (match kindOf (P.underlying f.type), flatKinds P (i + 1) fs with
      | some k, some ks => some (k :: ks)
      | _, _ => none) else none

/-- A type whose values are compared cell by cell. -/
def flatEq (P : Program) (t : TypeId) : Option (List Nat) :=
  match P.underlying t with
  | some (.struct fs) => if P.stoodInHeld t then none else if P.eqGuardType P.depth t then none else flatKinds P 0 fs.toList
  | _ => none

def keyType (P : Program) (t : TypeId) : Option Nat :=
  match P.underlying t with
  | some (.int _) => some 0
  | some .string => some 1
  | _ => none

def cBin (P : Program) (op : BinOp) (t : TypeId) (x y : AOpr) : Option AOp :=
  match op, P.underlying t with
  | .shl, some (.int _) | .shr, some (.int _) => some (.bin op x y)
  | _, some (.int _) | _, some .string | _, some (.float _) => some (.bin op x y)
  | .eql, some .bool => some (.eqB false x y)
  | .neq, some .bool => some (.eqB true x y)
  | .eql, some (.pointer e) => if szOf P e = some 0 then none else if (szOf P e).isSome then some (.eqP false x y) else none
  | .neq, some (.pointer e) => if szOf P e = some 0 then none else if (szOf P e).isSome then some (.eqP true x y) else none
  | .eql, some (.slice _) => some (.eqN 0 false x y)
  | .neq, some (.slice _) => some (.eqN 0 true x y)
  | .eql, some (.map _ _) => some (.eqN 1 false x y)
  | .neq, some (.map _ _) => some (.eqN 1 true x y)
  | .eql, some (.func _ _ _) => some (.eqN 2 false x y)
  | .neq, some (.func _ _ _) => some (.eqN 2 true x y)
  | .eql, some (.struct _) => (flatEq P t).map fun n => .eqA false n x y
  | .neq, some (.struct _) => (flatEq P t).map fun n => .eqA true n x y
  | _, _ => none

def cConv (P : Program) (src dst : TypeId) (x : AOpr) : Option AOp :=
  match P.underlying src, P.underlying dst with
  | some (.int _), some (.int k) => some (.cInt k x)
  | some .string, some .string => some (.cId x)
  | some .string, some (.slice e) => if P.underlying e matches some (.int .u8) then some (.cBytes x) else none
  | some (.slice e), some .string => if P.underlying e matches some (.int .u8) then some (.cStr x) else none
  | some (.slice _), some (.slice e) => if src = dst then (if P.underlying e matches some (.int .u8) then some (.cSl x) else none) else none
  | _, _ => none

def cBuiltin (P : Program) (b : Builtin) (ts : List TypeId) (args : List AOpr) : Option AOp :=
  match b, ts, args with
  | .len, [t], [x] => match P.underlying t with
    | some .string => some (.lenStr x)
    | some (.slice _) => some (.lenSl x)
    | some (.array n _) => some (.lenC n)
    | some (.pointer a) => (match P.underlying a with | some (.array n _) => some (.lenC n) | _ => none)
    | some (.map _ _) => some (.lenMap x)
    | _ => none
  | .append, [t, u], [s, x] => match P.underlying t, P.underlying u with
    | some (.slice _), some (.int _) => none
    | some (.slice e), some _ => (match P.info? e with
      | some i => if (zeroL P e).isSome then some (.append i.size i.bytes s x) else none
      | none => none)
    | _, _ => none
  | .copy, [t, _], [d, s] => match P.underlying t with
    | some (.slice e) => (szOf P e).map fun n => .copy n d s
    | _ => none
  | .min, _, xs => some (.minmax false xs)
  | .max, _, xs => some (.minmax true xs)
  | .delete, t :: _, [m, k] => match P.underlying t with
    | some (.map kt _) => (keyType P kt).map fun kd => .delete kd m k
    | _ => none
  | _, _, _ => none

def cCall (P : Program) (c : Call) (args : List AOpr) : Option AOp :=
  match c.callee with
  | .builtin b => cBuiltin P b c.argTypes.toList args
  | .invoke _ _ => none
  | .value (.func f) => match P.funcs[f]? with
    | some fn => if fn.body.isSome then (if fn.name = "runtime.NumGoroutine" then none else some (.call (.con (.func (.func f) #[] #[])) args))
      else match args with
        | [x] => if fn.name = "math.Float64frombits" ∧ fn.origin = "" then some (.f64bits x) else none
        | [x, y] => if fn.name = "internal/bytealg.IndexByteString" ∧ fn.origin = "" then some (.idxByteStr x y) else none
        | [x, y, z] => if fn.name = "math/bits.Add64" ∧ fn.origin = "" then some (.add64 x y z) else none
        | _ => none
    | none => none
  | .value x => (cOpr P x).map fun y => .call y args

/-- Is that the type of a strings.Builder? -/
def isBld (P : Program) (t : TypeId) : Bool :=
  match P.underlying t, zeroL P t with
  | some (.struct fs), some [.pointer none, .slice none 0 0] => (match fs.toList with | [f, g] => decide (f.name = "addr") && decide (g.name = "buf") | _ => false)
  | _, _ => false

def cOp (P : Program) (op : Op) : Option AOp :=
  match op with
  | .move x | .assign x => (cOpr P x).map .mov
  | .pick c a b => match cOpr P c, cOpr P a, cOpr P b with
    | some c, some a, some b => some (.pick c a b)
    | _, _, _ => none
  | .alloc t => if isBld P t = true then some (.newB t) else (zeroL P t).map .new
  | .box _ x => (cOpr P x).map .box
  | .build t parts => match P.underlying t, zeroL P t with
    | some (.struct fs), some z =>
      if fs.toList.all (fun f => (szOf P f.type).isSome) then
        (cParts P (fun i => match fs[i]? with | some f => (szOf P f.type).map fun n => (f.offset, n) | none => none) parts.toList).map (.build z)
      else none
    | some (.array _ e), some z => (match szOf P e with
      | some n => (cParts P (fun i => some (i * n, n)) parts.toList).map (.build z)
      | none => none)
    | _, _ => none
  | .buildSlice t len parts => match P.underlying t with
    | some (.slice e) => (match szOf P e, zeroL P e with
      | some n, some z => if len * n ≤ 16777216 then (cParts P (fun i => some (i * n, n)) parts.toList).map (.buildSlice len n z) else none
      | _, _ => none)
    | _ => none
  | .load t a => match cOpr P a, szOf P t with
    | some a, some n => if (P.underlying t).isSome then some (.load (isAggD (P.underlying t)) n a) else none
    | _, _ => none
  | .store t a x => match cOpr P a, cOpr P x, szOf P t with
    | some a, some x, some n => some (.store n a x)
    | _, _, _ => none
  | .nilCheck x => (cOpr P x).map .nilCheck
  | .fieldAddr s x f => match P.underlying s, cOpr P x with
    | some (.struct fs), some x => (match fs[f]? with
      | some fd => (match szOf P fd.type with
        | some 0 => none
        | some _ => some (.off fd.offset x)
        | none => none)
      | none => none)
    | _, _ => none
  | .field s x f => match P.underlying s, cOpr P x with
    | some (.struct fs), some x => (match fs[f]? with
      | some fd => (match szOf P fd.type with
        | some n => if (P.underlying fd.type).isSome then some (.field (isAggD (P.underlying fd.type)) fd.offset n x) else none
        | none => none)
      | none => none)
    | _, _ => none
  | .indexAddr t x i => match P.underlying t, cOpr P x, cOpr P i with
    | some (.array len e), some x, some i => (szOf P e).map fun n => .idxPtr len n x i
    | some (.slice e), some x, some i => (szOf P e).map fun n => .idxSl n x i
    | _, _, _ => none
  | .index t x i => match P.underlying t, cOpr P x, cOpr P i with
    | some (.array len e), some x, some i => (match szOf P e with
      | some n => if (P.underlying e).isSome then some (.idxAgg (isAggD (P.underlying e)) len n x i) else none
      | none => none)
    | some .string, some x, some i => some (.idxStr x i)
    | _, _, _ => none
  | .binOp op t x y _ => match cOpr P x, cOpr P y with
    | some x, some y => cBin P op t x y
    | _, _ => none
  | .unOp op _ x => (cOpr P x).map (.un op)
  | .convert src dst x => match cOpr P x with
    | some x => cConv P src dst x
    | none => none
  | .makeFunc fn first captured => match cOprs P first.toList, cOprs P captured.toList with
    | some a, some b => some (.mkFunc fn a b)
    | _, _ => none
  | .makeSlice t l c => match P.underlying t, cOpr P l, cOpr P c with
    | some (.slice e), some l, some c => (match P.info? e, zeroL P e with
      | some i, some z => some (.mkSlice i.size i.bytes z l c)
      | _, _ => none)
    | _, _, _ => none
  | .makeMap _ none => some .mkMap
  | .slice t x lo hi mx => match P.underlying t, cOpr P x, cOptOpr P lo, cOptOpr P hi, cOptOpr P mx with
    | some .string, some x, some lo, some hi, some none => some (.slStr x lo hi)
    | some (.slice e), some x, some lo, some hi, some mx => if mx.isSome && hi.isNone then none else (szOf P e).map fun n => .slSl n x lo hi mx
    | _, _, _, _, _ => none
  | .lookup t m k ok => match P.underlying t, cOpr P m, cOpr P k with
    | some (.map kt e), some m, some k => (match keyType P kt, P.info? e with
      | some kd, some i => (match i.zero with
        | some z => if okConst z then some (.lookup kd z ok m k) else none
        | none => none)
      | _, _ => none)
    | _, _, _ => none
  | .mapUpdate t m k v => match P.underlying t, cOpr P m, cOpr P k, cOpr P v with
    | some (.map kt _), some m, some k, some v => (keyType P kt).map fun kd => .mapSet kd m k v
    | _, _, _, _ => none
  | .mapEntry t m k => match P.underlying t, cOpr P m, cOpr P k with
    | some (.map kt e), some m, some k => (match keyType P kt, P.info? e with
      | some kd, some i => (match i.zero with
        | some z => if okConst z then some (.mapEntry kd z m k) else none
        | none => none)
      | _, _ => none)
    | _, _, _ => none
  | .entryStore _ m s v => match cOpr P m, cOpr P s, cOpr P v with
    | some m, some s, some v => some (.entrySet m s v)
    | _, _, _ => none
  | .extract x i => (cOpr P x).map fun x => .extract x i
  | .call c => match cOprs P c.args.toList with
    | some args => cCall P c args
    | none => none
  | _ => none

def cOper (P : Program) (ops : Array Oper) (o : Oper) : Option AOper :=
  match cOp P o.op with
  | some a => match o.guard with
    | none => some ⟨o.dst, none, a⟩
    | some (j, want) => match (ops[j]?).bind (·.dst) with
      | some t => some ⟨o.dst, some (t, want), a⟩
      | none => none
  | none => none

end Go.Ab
