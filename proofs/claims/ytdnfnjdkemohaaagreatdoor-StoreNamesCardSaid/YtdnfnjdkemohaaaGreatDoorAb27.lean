/- An evaluator for runs without unknowns, made to be worked out by the kernel. -/
import Derived.Test.YtdnfnjdkemohaaaGreatDoorAb26
namespace Go.Ab

/-- A heap as a tree. -/
inductive Tr where
  | leaf
  | node (o : Option Ob) (l r : Tr)

def Tr.get : Tr → Nat → Option Ob
  | .leaf, _ => none
  | .node o l r, i => match i with
    | 0 => o
    | j + 1 => if j % 2 = 0 then l.get (j / 2) else r.get (j / 2)

def Tr.set : Nat → Tr → Nat → Option Ob → Tr
  | 0, t, _, _ => t
  | _ + 1, .leaf, 0, o => .node o .leaf .leaf
  | k + 1, .leaf, j + 1, o => if j % 2 = 0 then .node none (Tr.set k .leaf (j / 2) o) .leaf else .node none .leaf (Tr.set k .leaf (j / 2) o)
  | _ + 1, .node _ l r, 0, o => .node o l r
  | k + 1, .node o' l r, j + 1, o => if j % 2 = 0 then .node o' (Tr.set k l (j / 2) o) r else .node o' l (Tr.set k r (j / 2) o)

def Tr.put (t : Tr) (i : Nat) (o : Ob) : Tr := Tr.set (i + 1) t i (some o)
def Tr.era (t : Tr) (i : Nat) : Tr := Tr.set (i + 1) t i none

theorem Tr.get_leaf (i : Nat) : Tr.leaf.get i = none := by simp [Tr.get]

theorem Tr.get_set : ∀ (k : Nat) (t : Tr) (i : Nat) (o : Option Ob), i < k → ∀ j, (Tr.set k t i o).get j = if j = i then o else t.get j := by
  intro k
  induction k with
  | zero => intro t i o h; omega
  | succ k ih =>
    intro t i o h j
    cases t with
    | leaf =>
      cases i with
      | zero =>
        cases j with
        | zero => simp [Tr.set, Tr.get]
        | succ j => simp [Tr.set, Tr.get]
      | succ i =>
        simp only [Tr.set]
        have hi : i / 2 < k := by omega
        split
        · rename_i hp
          cases j with
          | zero => simp [Tr.get]
          | succ j =>
            simp only [Tr.get]
            split
            · rename_i hq
              rw [ih _ _ _ hi, Tr.get_leaf]
              by_cases e : j = i
              · subst e; simp
              · rw [if_neg (by omega), if_neg (by omega)]
            · rename_i hq
              rw [if_neg (by omega)]
        · rename_i hp
          cases j with
          | zero => simp [Tr.get]
          | succ j =>
            simp only [Tr.get]
            split
            · rename_i hq
              rw [if_neg (by omega)]
            · rename_i hq
              rw [ih _ _ _ hi, Tr.get_leaf]
              by_cases e : j = i
              · subst e; simp
              · rw [if_neg (by omega), if_neg (by omega)]
    | node o' l r =>
      cases i with
      | zero =>
        cases j with
        | zero => simp [Tr.set, Tr.get]
        | succ j => simp [Tr.set, Tr.get]
      | succ i =>
        simp only [Tr.set]
        have hi : i / 2 < k := by omega
        split
        · rename_i hp
          cases j with
          | zero => simp [Tr.get]
          | succ j =>
            simp only [Tr.get]
            split
            · rename_i hq
              rw [ih _ _ _ hi]
              by_cases e : j = i
              · subst e; simp
              · rw [if_neg (by omega), if_neg (by omega)]
            · rename_i hq
              rw [if_neg (by omega)]
        · rename_i hp
          cases j with
          | zero => simp [Tr.get]
          | succ j =>
            simp only [Tr.get]
            split
            · rename_i hq
              rw [if_neg (by omega)]
            · rename_i hq
              rw [ih _ _ _ hi]
              by_cases e : j = i
              · subst e; simp
              · rw [if_neg (by omega), if_neg (by omega)]

theorem Tr.put_get (t : Tr) (i : Nat) (o : Ob) (j : Nat) : (t.put i o).get j = if j = i then some o else t.get j := Tr.get_set _ _ _ _ (Nat.lt_succ_self i) j
theorem Tr.era_get (t : Tr) (i j : Nat) : (t.era i).get j = if j = i then none else t.get j := Tr.get_set _ _ _ _ (Nat.lt_succ_self i) j

theorem Tr.fin (t : Tr) : ∃ B, ∀ i, B ≤ i → t.get i = none := by
  induction t with
  | leaf => exact ⟨0, fun i _ => Tr.get_leaf i⟩
  | node o l r ihl ihr =>
    obtain ⟨A, hA⟩ := ihl
    obtain ⟨B, hB⟩ := ihr
    refine ⟨2 * (A + B) + 2, fun i hi => ?_⟩
    cases i with
    | zero => omega
    | succ j =>
      simp only [Tr.get]
      split
      · exact hA _ (by omega)
      · exact hB _ (by omega)

def Tr.hp (t : Tr) : Hp := ⟨t.get, t.fin⟩

/-! Values worked out ahead. -/

def fNat {α : Type} (n : Nat) (k : Nat → α) : α := match n with | 0 => k 0 | m + 1 => k (m + 1)
theorem fNat_eq {α : Type} (n : Nat) (k : Nat → α) : fNat n k = k n := by cases n <;> rfl

def fInt {α : Type} (n : Int) (k : Int → α) : α := match n with | .ofNat m => fNat m fun m => k (.ofNat m) | .negSucc m => fNat m fun m => k (.negSucc m)
theorem fInt_eq {α : Type} (n : Int) (k : Int → α) : fInt n k = k n := by cases n <;> simp only [fInt, fNat_eq]

def fBool {α : Type} (b : Bool) (k : Bool → α) : α := match b with | true => k true | false => k false
theorem fBool_eq {α : Type} (b : Bool) (k : Bool → α) : fBool b k = k b := by cases b <;> rfl

def fBytes {α : Type} : List UInt8 → (List UInt8 → α) → α
  | [], k => k []
  | b :: l, k => fNat b.toNat fun n => fBytes l fun l => k (UInt8.ofNat n :: l)
theorem fBytes_eq {α : Type} : ∀ (l : List UInt8) (k : List UInt8 → α), fBytes l k = k l := by
  intro l
  induction l with
  | nil => intro k; rfl
  | cons b l ih => intro k; simp only [fBytes, fNat_eq, ih, UInt8.ofNat_toNat]

def fAd {α : Type} (a : Addr) (k : Addr → α) : α := match a with
  | ⟨b, o, s⟩ => fNat b fun b => fNat o fun o => k ⟨b, o, s⟩
theorem fAd_eq {α : Type} (a : Addr) (k : Addr → α) : fAd a k = k a := by cases a; simp only [fAd, fNat_eq]

def fFn {α : Type} (f : Fn) (k : Fn → α) : α := match f with
  | .func g => fNat g fun g => k (.func g)
  | f => k f
theorem fFn_eq {α : Type} (f : Fn) (k : Fn → α) : fFn f k = k f := by
  cases f <;> simp only [fFn, fNat_eq]

mutual
def fVal {α : Type} : Value → (Value → α) → α
  | .bool b, k => fBool b fun b => k (.bool b)
  | .int kd n, k => fInt n fun n => k (.int kd n)
  | .float kd n, k => fNat n fun n => k (.float kd n)
  | .string s, k => fBytes s.data.toList fun l => k (.string ⟨⟨l⟩⟩)
  | .pointer (some a), k => fAd a fun a => k (.pointer (some a))
  | .slice (some a) n e, k => fAd a fun a => fNat n fun n => fNat e fun e => k (.slice (some a) n e)
  | .slice none n e, k => fNat n fun n => fNat e fun e => k (.slice none n e)
  | .map (some i), k => fNat i fun i => k (.map (some i))
  | .agg a, k => fArr a fun a => k (.agg a)
  | .tuple a, k => fArr a fun a => k (.tuple a)
  | .func f a b, k => fFn f fun f => fArr a fun a => fArr b fun b => k (.func f a b)
  | .iface t v, k => fVal v fun v => k (.iface t v)
  | .complex kd a b, k => k (.complex kd a b)
  | .pointer none, k => k (.pointer none)
  | .map none, k => k (.map none)
  | .chan c, k => k (.chan c)
  | .nilFunc, k => k .nilFunc
  | .nilIface, k => k .nilIface
def fArr {α : Type} : Array Value → (Array Value → α) → α
  | ⟨l⟩, k => fLst l fun l => k ⟨l⟩
def fLst {α : Type} : List Value → (List Value → α) → α
  | [], k => k []
  | v :: l, k => fVal v fun v => fLst l fun l => k (v :: l)
end

mutual
theorem fVal_eq {α : Type} : ∀ (v : Value) (k : Value → α), fVal v k = k v
  | .bool b, k => by simp only [fVal, fBool_eq]
  | .int kd n, k => by simp only [fVal, fInt_eq]
  | .float kd n, k => by simp only [fVal, fNat_eq]
  | .string s, k => by simp only [fVal, fBytes_eq]
  | .pointer (some a), k => by simp only [fVal, fAd_eq]
  | .slice (some a) n e, k => by simp only [fVal, fAd_eq, fNat_eq]
  | .slice none n e, k => by simp only [fVal, fNat_eq]
  | .map (some i), k => by simp only [fVal, fNat_eq]
  | .agg a, k => by simp only [fVal, fArr_eq a]
  | .tuple a, k => by simp only [fVal, fArr_eq a]
  | .func f a b, k => by simp only [fVal, fFn_eq, fArr_eq a, fArr_eq b]
  | .iface t v, k => by simp only [fVal, fVal_eq v]
  | .complex kd a b, k => by simp only [fVal]
  | .pointer none, k => by simp only [fVal]
  | .map none, k => by simp only [fVal]
  | .chan c, k => by simp only [fVal]
  | .nilFunc, k => by simp only [fVal]
  | .nilIface, k => by simp only [fVal]
theorem fArr_eq {α : Type} : ∀ (a : Array Value) (k : Array Value → α), fArr a k = k a
  | ⟨l⟩, k => by simp only [fArr, fLst_eq l]
theorem fLst_eq {α : Type} : ∀ (l : List Value) (k : List Value → α), fLst l k = k l
  | [], k => by simp only [fLst]
  | v :: l, k => by simp only [fLst, fVal_eq v, fLst_eq l]
end

def fEs {α : Type} : List (Value × Value × Nat) → (List (Value × Value × Nat) → α) → α
  | [], k => k []
  | (a, b, n) :: l, k => fVal a fun a => fVal b fun b => fNat n fun n => fEs l fun l => k ((a, b, n) :: l)
theorem fEs_eq {α : Type} : ∀ (l : List (Value × Value × Nat)) (k : List (Value × Value × Nat) → α), fEs l k = k l := by
  intro l
  induction l with
  | nil => intro k; rfl
  | cons e l ih => obtain ⟨a, b, n⟩ := e; intro k; simp only [fEs, fVal_eq, fNat_eq, ih]

def fOb {α : Type} (o : Ob) (k : Ob → α) : α := match o with
  | .cells ro c => fBool ro fun ro => fLst c fun c => k (.cells ro c)
  | .map es n => fEs es fun es => fNat n fun n => k (.map es n)
  | .bld T p s => fNat T fun T => fVal p fun p => fVal s fun s => k (.bld T p s)
theorem fOb_eq {α : Type} (o : Ob) (k : Ob → α) : fOb o k = k o := by
  cases o <;> simp only [fOb, fBool_eq, fLst_eq, fEs_eq, fNat_eq, fVal_eq]

def fTr {α : Type} : Tr → (Tr → α) → α
  | .leaf, k => k .leaf
  | .node o l r, k => k (.node o l r)

/-- The tree, set anew, in its head form all along the path. -/
def Tr.setK {α : Type} : Nat → Tr → Nat → Option Ob → (Tr → α) → α
  | 0, t, _, _, k => k t
  | _ + 1, .leaf, 0, o, k => k (.node o .leaf .leaf)
  | f + 1, .leaf, j + 1, o, k => if j % 2 = 0 then fNat (j / 2) fun j => Tr.setK f .leaf j o fun t => k (.node none t .leaf) else fNat (j / 2) fun j => Tr.setK f .leaf j o fun t => k (.node none .leaf t)
  | _ + 1, .node _ l r, 0, o, k => k (.node o l r)
  | f + 1, .node o' l r, j + 1, o, k => if j % 2 = 0 then fNat (j / 2) fun j => Tr.setK f l j o fun t => k (.node o' t r) else fNat (j / 2) fun j => Tr.setK f r j o fun t => k (.node o' l t)

theorem Tr.setK_eq {α : Type} : ∀ (f : Nat) (t : Tr) (i : Nat) (o : Option Ob) (k : Tr → α), Tr.setK f t i o k = k (Tr.set f t i o) := by
  intro f
  induction f with
  | zero => intro t i o k; rfl
  | succ f ih =>
    intro t i o k
    cases t <;> cases i <;> simp only [Tr.setK, Tr.set, fNat_eq, ih] <;> split <;> rfl

end Go.Ab
