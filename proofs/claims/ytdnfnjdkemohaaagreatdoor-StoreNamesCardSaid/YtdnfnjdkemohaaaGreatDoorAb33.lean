/- How a walk over abstract code goes: the laws by which it is stepped. -/
import Derived.Test.YtdnfnjdkemohaaaGreatDoorAb32
import Derived.IntWalk
namespace Go.Ab

section
variable {P : Program} {K : Tm → Hp → Prop} {Q : AExit → Tm → Hp → Prop} {tm : Tm} {H : Hp}

/-- A call that is to come. -/
def TriK (P : Program) (f : FuncId) (args : List Value) (H : Hp) (K : Tm → Hp → Prop) (tm : Tm) (d : Option Nat) : Prop :=
  Tri P f args H fun v H' => K (tm.put d v) H'

theorem TriK.of {f : FuncId} {args : List Value} {d : Option Nat} {R : Value → Hp → Prop} (h : Tri P f args H R) (k : ∀ v H', R v H' → K (tm.put d v) H') : TriK P f args H K tm d :=
  h.mono k

/-- A loop that is to come. -/
def LoopW (P : Program) (c : ACode) (Q : AExit → Tm → Hp → Prop) (tm : Tm) (H : Hp) : Prop := AW P (.loop c) Q tm H
def ScopeW (P : Program) (l : Nat) (c r : ACode) (Q : AExit → Tm → Hp → Prop) (tm : Tm) (H : Hp) : Prop := AW P (.scope l c r) Q tm H

/-- Both ways of a test. -/
def IFP (p A B : Prop) : Prop := (p → A) ∧ (¬ p → B)
theorem IFP_congr {p p' A A' B B' : Prop} (h1 : p = p') (h2 : p' → A = A') (h3 : ¬ p' → B = B') : IFP p A B = IFP p' A' B' := by
  subst h1
  by_cases h : p
  · simp [IFP, h, h2 h]
  · simp [IFP, h, h3 h]
theorem IFP_true {A B : Prop} : IFP True A B ↔ A := by simp [IFP]
theorem IFP_false {A B : Prop} : IFP False A B ↔ B := by simp [IFP]
theorem IFP_not {p A B : Prop} : IFP (¬ p) A B ↔ IFP p B A := by by_cases h : p <;> simp [IFP, h]
theorem IFP.intro {p A B : Prop} (h1 : p → A) (h2 : ¬ p → B) : IFP p A B := ⟨h1, h2⟩

/-- How a region goes on. -/
def KN (live : List Nat) (Q : AExit → Tm → Hp → Prop) : Tm → Hp → Prop := fun tm H => Q .normal (tm.keep live) H
theorem KN_iff {live : List Nat} : KN live Q tm H ↔ Q .normal (tm.keep live) H := Iff.rfl

theorem AW_skip : AW P .skip Q tm H ↔ Q .normal tm H := Iff.rfl
theorem AW_label {l : Nat} : AW P (.label l) Q tm H ↔ Q .normal tm H := Iff.rfl
theorem AW_exit {l : Nat} : AW P (.exit l) Q tm H ↔ Q (.exit l) tm H := Iff.rfl
theorem AW_goto {l : Nat} : AW P (.goto l) Q tm H ↔ Q (.goto l) tm H := Iff.rfl
theorem AW_ret : AW P .ret Q tm H ↔ Q .ret tm H := Iff.rfl
theorem AW_region {ops : List AOper} {live : List Nat} : AW P (.region ops live) Q tm H ↔ RW P (KN live Q) ops tm H := Iff.rfl
theorem AW_regionD {ms : List Nat} {ops : List (Nat × AOper)} {live : List Nat} : AW P (.regionD ms ops live) Q tm H ↔ RWD P (befM ms) (KN live Q) ops [] tm H := Iff.rfl
theorem AW_seq {a b : ACode} : AW P (.seq a b) Q tm H ↔ AW P a (AExit.then (AW P b Q) Q) tm H := Iff.rfl
/-- A test that is to be made. -/
def CO (P : Program) (x : Option Value) (a b : ACode) (Q : AExit → Tm → Hp → Prop) (tm : Tm) (H : Hp) : Prop := match x with
    | some (.bool t) => if t = true then AW P a Q tm H else AW P b Q tm H
    | _ => False
theorem CO_congr {x y : Option Value} {a b : ACode} (h : x = y) : CO P x a b Q tm H = CO P y a b Q tm H := by rw [h]
theorem CO_bool {t : Bool} {a b : ACode} : CO P (some (.bool t)) a b Q tm H ↔ if t = true then AW P a Q tm H else AW P b Q tm H := Iff.rfl
theorem CO_dec {p : Prop} [Decidable p] {a b : ACode} : CO P (some (.bool (decide p))) a b Q tm H ↔ IFP p (AW P a Q tm H) (AW P b Q tm H) := by
  by_cases h : p <;> simp [CO, IFP, h]
theorem CO_ndec {p : Prop} [Decidable p] {a b : ACode} : CO P (some (.bool (!decide p))) a b Q tm H ↔ IFP p (AW P b Q tm H) (AW P a Q tm H) := by
  by_cases h : p <;> simp [CO, IFP, h]
theorem CO_b {t : Bool} {a b : ACode} : CO P (some (.bool t)) a b Q tm H ↔ IFP (t = true) (AW P a Q tm H) (AW P b Q tm H) := by
  cases t <;> simp [CO, IFP]
theorem CO_true {a b : ACode} : CO P (some (.bool true)) a b Q tm H ↔ AW P a Q tm H := by simp [CO]
theorem CO_false {a b : ACode} : CO P (some (.bool false)) a b Q tm H ↔ AW P b Q tm H := by simp [CO]
theorem AW_cond {c : AOpr} {a b : ACode} : AW P (.cond c a b) Q tm H ↔ CO P (aev H tm c) a b Q tm H := Iff.rfl
theorem AW_block {i : Nat} {c : ACode} : AW P (.block i c) Q tm H ↔ AW P c (AExit.inBlock i Q) tm H := Iff.rfl
theorem AW_loop {c : ACode} : AW P (.loop c) Q tm H ↔ LoopW P c Q tm H := Iff.rfl
theorem AW_scope {l : Nat} {c r : ACode} : AW P (.scope l c r) Q tm H ↔ ScopeW P l c r Q tm H := Iff.rfl

theorem then_normal {K : Tm → Hp → Prop} : AExit.then K Q .normal tm H ↔ K tm H := Iff.rfl
theorem then_exit {K : Tm → Hp → Prop} {i : Nat} : AExit.then K Q (.exit i) tm H ↔ Q (.exit i) tm H := Iff.rfl
theorem then_goto {K : Tm → Hp → Prop} {i : Nat} : AExit.then K Q (.goto i) tm H ↔ Q (.goto i) tm H := Iff.rfl
theorem then_ret {K : Tm → Hp → Prop} : AExit.then K Q .ret tm H ↔ Q .ret tm H := Iff.rfl
theorem inBlock_normal {i : Nat} : AExit.inBlock i Q .normal tm H ↔ Q .normal tm H := Iff.rfl
theorem inBlock_exit {i j : Nat} : AExit.inBlock i Q (.exit j) tm H ↔ (if j = i then Q .normal tm H else Q (.exit j) tm H) := Iff.rfl
theorem inBlock_goto {i j : Nat} : AExit.inBlock i Q (.goto j) tm H ↔ Q (.goto j) tm H := Iff.rfl
theorem inBlock_ret {i : Nat} : AExit.inBlock i Q .ret tm H ↔ Q .ret tm H := Iff.rfl
theorem jump_goto {l j : Nat} {J : Tm → Hp → Prop} : AExit.jump l J Q (.goto j) tm H ↔ j = l ∧ J tm H := Iff.rfl
theorem jump_normal {l : Nat} {J : Tm → Hp → Prop} : AExit.jump l J Q .normal tm H ↔ Q .normal tm H := Iff.rfl
theorem jump_exit {l i : Nat} {J : Tm → Hp → Prop} : AExit.jump l J Q (.exit i) tm H ↔ Q (.exit i) tm H := Iff.rfl
theorem jump_ret {l : Nat} {J : Tm → Hp → Prop} : AExit.jump l J Q .ret tm H ↔ Q .ret tm H := Iff.rfl

theorem RW_nil : RW P K [] tm H ↔ K tm H := Iff.rfl
/-- An operation that is to come. -/
def EV (P : Program) (x : Option Eff) (d : Option Nat) (K : Tm → Hp → Prop) (tm : Tm) (H : Hp) : Prop := match x with
  | some eff => effW P eff d K tm H
  | none => False
theorem EV_iff {x : Option Eff} {d : Option Nat} : (∃ eff, x = some eff ∧ effW P eff d K tm H) ↔ EV P x d K tm H := by
  cases x with
  | none => simp [EV]
  | some e => simp [EV]
theorem EV_congr {x y : Option Eff} {d : Option Nat} (h : x = y) : EV P x d K tm H = EV P y d K tm H := by rw [h]
theorem EV_none {d : Option Nat} : EV P none d K tm H ↔ False := Iff.rfl
theorem EV_val {d : Option Nat} {v : Value} : EV P (some (.val v)) d K tm H ↔ K (tm.put d v) H := Iff.rfl
theorem EV_wr {d : Option Nat} {id : Nat} {ob : Ob} {v : Value} : EV P (some (.wr id ob v)) d K tm H ↔ K (tm.put d v) (H.put id ob) := Iff.rfl
theorem EV_call {d : Option Nat} {f : FuncId} {args : List Value} : EV P (some (.call f args)) d K tm H ↔ TriK P f args H K tm d := Iff.rfl
/-- A new object that is to come. -/
def NewW (ob : Ob) (mk : Mk) (d : Option Nat) (K : Tm → Hp → Prop) (tm : Tm) (H : Hp) : Prop := ∀ id, H id = none → K (tm.put d (mk.val id)) (H.put id ob)
def AppW (er : Option Nat) (ob : Ob) (mk : Mk) (d : Option Nat) (K : Tm → Hp → Prop) (tm : Tm) (H : Hp) : Prop := ∀ id, H id = none → K (tm.put d (mk.val id)) ((eraO H er).put id ob)
theorem NewW.of {ob : Ob} {mk : Mk} {d : Option Nat} (h : ∀ id, H id = none → (∀ x o, H x = some o → x ≠ id) → K (tm.put d (mk.val id)) (H.put id ob)) : NewW ob mk d K tm H :=
  fun id hid => h id hid fun x o hx e => by subst e; rw [hid] at hx; cases hx
theorem AppW.of {er : Option Nat} {ob : Ob} {mk : Mk} {d : Option Nat} (h : ∀ id, H id = none → (∀ x o, H x = some o → x ≠ id) → K (tm.put d (mk.val id)) ((eraO H er).put id ob)) : AppW er ob mk d K tm H :=
  fun id hid => h id hid fun x o hx e => by subst e; rw [hid] at hx; cases hx
theorem NewW_congr {ob ob' : Ob} {mk mk' : Mk} {d : Option Nat} {tm' : Tm} (h : ob = ob') (h' : mk = mk') (h2 : tm = tm') : NewW ob mk d K tm H = NewW ob' mk' d K tm' H := by rw [h, h', h2]
theorem AppW_congr {er er' : Option Nat} {ob ob' : Ob} {mk mk' : Mk} {d : Option Nat} {tm' : Tm} (h0 : er = er') (h : ob = ob') (h' : mk = mk') (h2 : tm = tm') : AppW er ob mk d K tm H = AppW er' ob' mk' d K tm' H := by rw [h0, h, h', h2]
theorem EV_new {d : Option Nat} {ob : Ob} {mk : Mk} : EV P (some (.new ob mk)) d K tm H ↔ NewW ob mk d K tm H := Iff.rfl
theorem EV_app {d : Option Nat} {er : Option Nat} {ob : Ob} {mk : Mk} : EV P (some (.app er ob mk)) d K tm H ↔ AppW er ob mk d K tm H := Iff.rfl
theorem TriK_congr {f : FuncId} {args args' : List Value} {d : Option Nat} {tm' : Tm} (h : args = args') (h2 : tm = tm') : TriK P f args H K tm d = TriK P f args' H K tm' d := by rw [h, h2]
theorem LoopW_congr {c : ACode} {tm' : Tm} (h2 : tm = tm') : LoopW P c Q tm H = LoopW P c Q tm' H := by rw [h2]
theorem ScopeW_congr {l : Nat} {c r : ACode} {tm' : Tm} (h2 : tm = tm') : ScopeW P l c r Q tm H = ScopeW P l c r Q tm' H := by rw [h2]

theorem RW_cons {d : Option Nat} {op : AOp} {l : List AOper} : RW P K (⟨d, none, op⟩ :: l) tm H ↔ EV P (evalA H tm op) d (RW P K l) tm H := EV_iff
/-- A guard that is to be looked at. -/
def GW (P : Program) (x : Option Value) (b : Bool) (d : Option Nat) (op : AOp) (l : List AOper) (K : Tm → Hp → Prop) (tm : Tm) (H : Hp) : Prop := match x with
    | some (.bool y) => if y = b then RW P K (⟨d, none, op⟩ :: l) tm H else RW P K l (tm.put d undef) H
    | some _ => RW P K l (tm.put d undef) H
    | none => False
section
variable {d : Option Nat} {op : AOp} {l : List AOper}
theorem GW_congr {x y : Option Value} {b : Bool} (h : x = y) : GW P x b d op l K tm H = GW P y b d op l K tm H := by rw [h]
theorem GW_dec {p : Prop} [Decidable p] : GW P (some (.bool (decide p))) true d op l K tm H ↔ IFP p (RW P K (⟨d, none, op⟩ :: l) tm H) (RW P K l (tm.put d undef) H) := by
  by_cases h : p <;> simp [GW, IFP, h]
theorem GW_decN {p : Prop} [Decidable p] : GW P (some (.bool (decide p))) false d op l K tm H ↔ IFP p (RW P K l (tm.put d undef) H) (RW P K (⟨d, none, op⟩ :: l) tm H) := by
  by_cases h : p <;> simp [GW, IFP, h]
theorem GW_b {t : Bool} : GW P (some (.bool t)) true d op l K tm H ↔ IFP (t = true) (RW P K (⟨d, none, op⟩ :: l) tm H) (RW P K l (tm.put d undef) H) := by
  cases t <;> simp [GW, IFP]
theorem GW_bN {t : Bool} : GW P (some (.bool t)) false d op l K tm H ↔ IFP (t = true) (RW P K l (tm.put d undef) H) (RW P K (⟨d, none, op⟩ :: l) tm H) := by
  cases t <;> simp [GW, IFP]
theorem GW_tt : GW P (some (.bool true)) true d op l K tm H ↔ RW P K (⟨d, none, op⟩ :: l) tm H := by simp [GW]
theorem GW_tf : GW P (some (.bool true)) false d op l K tm H ↔ RW P K l (tm.put d undef) H := by simp [GW]
theorem GW_ft : GW P (some (.bool false)) true d op l K tm H ↔ RW P K l (tm.put d undef) H := by simp [GW]
theorem GW_ff : GW P (some (.bool false)) false d op l K tm H ↔ RW P K (⟨d, none, op⟩ :: l) tm H := by simp [GW]
theorem RW_guard {t : Nat} {b : Bool} : RW P K (⟨d, some (t, b), op⟩ :: l) tm H ↔ GW P (tm.get t) b d op l K tm H := by
  simp only [RW, guardA, GW]
  cases h : tm.get t with
  | none => simp
  | some v =>
    cases v with
    | bool x => cases x <;> cases b <;> simp
    | _ => simp
end

theorem RWD_nil {bef : Nat → Nat → Bool} {p : List (Nat × (Hp → Prop))} : RWD P bef K [] p tm H ↔ K tm H := Iff.rfl
/-- How a region that draws goes on behind an operation that writes. -/
def KD (P : Program) (bef : Nat → Nat → Bool) (K : Tm → Hp → Prop) (l : List (Nat × AOper)) (i : Nat) (p : List (Nat × (Hp → Prop))) : Tm → Hp → Prop :=
  fun tm' H' => (∀ q ∈ p, bef q.1 i = false → q.2 H') ∧ RWD P bef K l p tm' H'
theorem KD_iff {bef : Nat → Nat → Bool} {l : List (Nat × AOper)} {i : Nat} {p : List (Nat × (Hp → Prop))} : KD P bef K l i p tm H ↔ (∀ q ∈ p, bef q.1 i = false → q.2 H) ∧ RWD P bef K l p tm H := Iff.rfl
theorem RWD_heavy {bef : Nat → Nat → Bool} {p : List (Nat × (Hp → Prop))} {i : Nat} {d : Option Nat} {op : AOp} {l : List (Nat × AOper)} (h : isHeavy op = true) :
    RWD P bef K ((i, ⟨d, none, op⟩) :: l) p tm H ↔ EV P (evalA H tm op) d (KD P bef K l i p) tm H := by
  simp only [RWD, guardA, h, if_true]
  exact EV_iff
theorem RWD_load {bef : Nat → Nat → Bool} {p : List (Nat × (Hp → Prop))} {i : Nat} {d : Option Nat} {op : AOp} {l : List (Nat × AOper)} (h : isHeavy op = false) (h2 : isLoad op = true) :
    RWD P bef K ((i, ⟨d, none, op⟩) :: l) p tm H ↔ ∃ eff, evalA H tm op = some eff ∧ effW P eff d (RWD P bef K l ((i, fun H' => evalA H' tm op = some eff) :: p)) tm H := by
  simp only [RWD, guardA, h, h2, if_true, Bool.false_eq_true, if_false]
theorem RWD_light {bef : Nat → Nat → Bool} {p : List (Nat × (Hp → Prop))} {i : Nat} {d : Option Nat} {op : AOp} {l : List (Nat × AOper)} (h : isHeavy op = false) (h2 : isLoad op = false) :
    RWD P bef K ((i, ⟨d, none, op⟩) :: l) p tm H ↔ EV P (evalA H tm op) d (RWD P bef K l p) tm H := by
  simp only [RWD, guardA, h, h2, Bool.false_eq_true, if_false]
  exact EV_iff

theorem effW_val {d : Option Nat} {v : Value} : effW P (.val v) d K tm H ↔ K (tm.put d v) H := Iff.rfl
theorem effW_new {d : Option Nat} {ob : Ob} {mk : Mk} : effW P (.new ob mk) d K tm H ↔ ∀ id, H id = none → K (tm.put d (mk.val id)) (H.put id ob) := Iff.rfl
theorem effW_wr {d : Option Nat} {id : Nat} {ob : Ob} {v : Value} : effW P (.wr id ob v) d K tm H ↔ K (tm.put d v) (H.put id ob) := Iff.rfl
theorem effW_app {d : Option Nat} {er : Option Nat} {ob : Ob} {mk : Mk} : effW P (.app er ob mk) d K tm H ↔ ∀ id, H id = none → K (tm.put d (mk.val id)) ((eraO H er).put id ob) := Iff.rfl
theorem effW_call {d : Option Nat} {f : FuncId} {args : List Value} : effW P (.call f args) d K tm H ↔ TriK P f args H K tm d := Iff.rfl

/-- What a function answers. -/
def RET (R : Value → Hp → Prop) (x : Option (List Value)) (H : Hp) : Prop := ∃ vs H', x = some vs ∧ Hp.sub H' H ∧ R (resV vs) H'
theorem RET_congr {R : Value → Hp → Prop} {x y : Option (List Value)} (h : x = y) : RET R x H = RET R y H := by rw [h]
theorem RET.of {R : Value → Hp → Prop} {vs : List Value} (h : R (resV vs) H) : RET R (some vs) H := ⟨vs, H, rfl, Hp.sub_refl _, h⟩
theorem RET.weak {R : Value → Hp → Prop} {vs : List Value} (H' : Hp) (hs : Hp.sub H' H) (h : R (resV vs) H') : RET R (some vs) H := ⟨vs, H', rfl, hs, h⟩
theorem fnQ_ret {res : List ARes} {R : Value → Hp → Prop} : fnQ res R .ret tm H ↔ RET R (resAs H tm res) H := Iff.rfl
theorem fnQ_normal {res : List ARes} {R : Value → Hp → Prop} : fnQ res R .normal tm H ↔ RET R (resAs H tm res) H := Iff.rfl
theorem fnQ_goto {res : List ARes} {R : Value → Hp → Prop} {l : Nat} : fnQ res R (.goto l) tm H ↔ False := Iff.rfl
theorem fnQ_exit {res : List ARes} {R : Value → Hp → Prop} {l : Nat} : fnQ res R (.exit l) tm H ↔ False := Iff.rfl

attribute [congr] RET_congr IFP_congr CO_congr EV_congr NewW_congr AppW_congr TriK_congr LoopW_congr ScopeW_congr GW_congr

theorem get_cons {t u : Nat} {v : Value} {tm : Tm} : Tm.get ((t, v) :: tm) u = if u = t then some v else tm.get u := rfl
theorem get_nil {u : Nat} : Tm.get [] u = none := rfl
theorem put_some {t : Nat} {v : Value} : Tm.put tm (some t) v = (t, v) :: tm := rfl
theorem put_none {v : Value} : Tm.put tm none v = tm := rfl
theorem keep_nil : Tm.keep tm [] = [] := rfl
theorem keep_cons {t : Nat} {l : List Nat} : Tm.keep tm (t :: l) = (match tm.get t with
    | some v => (t, v) :: Tm.keep tm l
    | none => Tm.keep tm l) := rfl

theorem aev_tmp {t : Nat} : aev H tm (.tmp t) = tm.get t := rfl
theorem aev_con {v : Value} : aev H tm (.con v) = some v := rfl

theorem resAs_nil : resAs H tm [] = some [] := rfl
theorem resAs_cons {r : ARes} {l : List ARes} : resAs H tm (r :: l) = (match resA H tm r, resAs H tm l with
    | some v, some vs => some (v :: vs)
    | _, _ => none) := rfl
theorem resA_tmp {t : Nat} : resA H tm (.tmp t) = tm.get t := rfl
theorem resV_one {v : Value} : resV [v] = v := rfl
theorem resV_two {a b : Value} {l : List Value} : resV (a :: b :: l) = .tuple (a :: b :: l).toArray := rfl
theorem resV_nil : resV [] = .tuple #[] := rfl

theorem put_get {id i : Nat} {ob : Ob} : (H.put id ob) i = if i = id then some ob else H i := by
  by_cases h : i = id
  · subst h; rw [if_pos rfl, Hp.put_same]
  · rw [if_neg h, Hp.put_ne _ _ h]

theorem put_put {id : Nat} {a b : Ob} : (H.put id a).put id b = H.put id b := by
  apply Hp.ext'
  intro i
  by_cases h : i = id
  · subst h; simp only [put_get, if_true]
  · simp only [put_get, h, if_false]
theorem sub_of_eq {H' : Hp} (h : H' = H) : Hp.sub H' H := by rw [h]; exact Hp.sub_refl _
theorem ub_ofNat {k : Nat} (h : k < 256) : ub (UInt8.ofNat k) = .int .u8 (k : Int) := by
  simp only [ub, UInt8.toNat_ofNat', Nat.mod_eq_of_lt h]

theorem bytesOf_map (l : List UInt8) : bytesOf (l.map ub) = some l := by
  induction l with
  | nil => rfl
  | cons b l ih =>
    simp only [List.map_cons, ub, bytesOf]
    rw [ih]
    simp

/-- A loop's next round. -/
def Again {α : Type} (T : α → Tm) (G : α → Hp) (m : α → Nat) (inv : α → Prop) (a : α) (tm : Tm) (H : Hp) : Prop := ∃ a', (m a' < m a ∧ inv a') ∧ tm = T a' ∧ Hp.sub (G a') H
theorem Again.of {α : Type} {T : α → Tm} {G : α → Hp} {m : α → Nat} {inv : α → Prop} {a : α} (a' : α) (h1 : m a' < m a) (h2 : inv a') (h3 : tm = T a') (h4 : Hp.sub (G a') H) : Again T G m inv a tm H := ⟨a', ⟨h1, h2⟩, h3, h4⟩

/-- A loop by a state. -/
theorem loopA {α : Type} {c : ACode} (T : α → Tm) (G : α → Hp) (m : α → Nat) (inv : α → Prop) (a0 : α) (ht : tm = T a0) (hh : H = G a0) (h0 : inv a0)
    (hr : ∀ a, inv a → AW P c (AExit.then (Again T G m inv a) Q) (T a) (G a)) : LoopW P c Q tm H := by
  subst ht; subst hh
  refine ⟨fun k tm H => ∃ a, k = m a ∧ inv a ∧ tm = T a ∧ H = G a, ⟨m a0, _, _, fun _ _ h => h, Hp.sub_refl _, a0, rfl, h0, rfl, rfl⟩, ?_⟩
  rintro k tm H ⟨a, rfl, ha, rfl, rfl⟩
  have mono : ∀ e tm H, AExit.then (Again T G m inv a) Q e tm H →
      AExit.then (fun tm' H' => ∃ k', k' < m a ∧ Weak (fun tm H => ∃ a, k' = m a ∧ inv a ∧ tm = T a ∧ H = G a) tm' H') Q e tm H := by
    intro e tm H h
    cases e with
    | normal =>
      obtain ⟨a', ⟨h1, h2⟩, h3, h4⟩ := h
      exact ⟨m a', h1, tm, G a', fun _ _ h => h, h4, a', rfl, h2, h3, rfl⟩
    | exit i => exact h
    | goto i => exact h
    | ret => exact h
  exact aw_imp c (fun e tm H h => mono e tm H h) (hr a ha)

/-- A loop's next round; the heap may hold more. -/
def AgainW {α : Type} (T : α → Tm) (G : α → Hp → Prop) (m : α → Nat) (inv : α → Prop) (a : α) (tm : Tm) (H : Hp) : Prop := ∃ a', (m a' < m a ∧ inv a') ∧ tm = T a' ∧ ∃ H', Hp.sub H' H ∧ G a' H'
theorem AgainW.of {α : Type} {T : α → Tm} {G : α → Hp → Prop} {m : α → Nat} {inv : α → Prop} {a : α} (a' : α) (H' : Hp) (h1 : m a' < m a) (h2 : inv a') (h3 : tm = T a') (h4 : Hp.sub H' H) (h5 : G a' H') : AgainW T G m inv a tm H :=
  ⟨a', ⟨h1, h2⟩, h3, H', h4, h5⟩

/-- A loop by a state; the heap may hold more. -/
theorem loopW {α : Type} {c : ACode} (T : α → Tm) (G : α → Hp → Prop) (m : α → Nat) (inv : α → Prop) (a0 : α) (ht : tm = T a0) (hh : G a0 H) (h0 : inv a0)
    (hr : ∀ a H, inv a → G a H → AW P c (AExit.then (AgainW T G m inv a) Q) (T a) H) : LoopW P c Q tm H := by
  subst ht
  refine ⟨fun k tm H => ∃ a, k = m a ∧ inv a ∧ tm = T a ∧ G a H, ⟨m a0, _, _, fun _ _ h => h, Hp.sub_refl _, a0, rfl, h0, rfl, hh⟩, ?_⟩
  rintro k tm H ⟨a, rfl, ha, rfl, hg⟩
  have mono : ∀ e tm H, AExit.then (AgainW T G m inv a) Q e tm H →
      AExit.then (fun tm' H' => ∃ k', k' < m a ∧ Weak (fun tm H => ∃ a, k' = m a ∧ inv a ∧ tm = T a ∧ G a H) tm' H') Q e tm H := by
    intro e tm H h
    cases e with
    | normal =>
      obtain ⟨a', ⟨h1, h2⟩, h3, H'', hs, h4⟩ := h
      exact ⟨m a', h1, tm, H'', fun _ _ h => h, hs, a', rfl, h2, h3, h4⟩
    | exit i => exact h
    | goto i => exact h
    | ret => exact h
  exact aw_imp c (fun e tm H h => mono e tm H h) (hr a H ha hg)

end

end Go.Ab
