/- The builtins append and copy. -/
import Derived.Test.YtdnfnjdkemohaaaGreatDoorAb13
import Derived.Room.AppendAsks
import Derived.Laws.Append
namespace Go.Ab
open Go.RowKit (Below)

def eraO (T : Hp) : Option Nat → Hp
  | some i => T.era i
  | none => T

/-- What an append that makes a new object owes. -/
def AppOk (P : Program) (N : Nat) (w0 : World) (μ : Mu) (T : Hp) (o : Oper) (a : Act) (w : World) (er : Option Nat) (ob : Ob) (mk : Mk) : Prop :=
  ∀ id, N ≤ id → μ id = none → ∃ v' w' μ', (execOp a.eval o).run P w = .ok (.value v') w' ∧ μ.le μ' ∧ Sim N w0 μ' ((eraO T er).put id ob) w' ∧ VR μ' (mk.val id) v'

section
variable {P : Program} {N : Nat} {w0 : World} {μ : Mu} {H T : Hp} {n : Nat} {tm : Tm} {a : Act} {w : World} {o : Oper}

theorem Sim.era (h : Sim N w0 μ T w) (i : Nat) : Sim N w0 μ (T.era i) w := h.sub fun j ob e => by
  rw [Hp.era_get] at e
  split at e
  · cases e
  · exact e

theorem Sim.eraO (h : Sim N w0 μ T w) (i : Option Nat) : Sim N w0 μ (Ab.eraO T i) w := by
  cases i with
  | none => exact h
  | some i => exact h.era i

/-- An object that goes on where another one lay. -/
theorem Sim.rename (h : Sim N w0 μ T w) {id id' : Nat} {loc : Loc} {c : List Value} (off : Nat) (hT : T id = some (.cells false c)) (hμ : μ id = some loc) (hid : N ≤ id') (hμ' : μ id' = none)
    {c' : List Value} {arr : Array Value} {el : TypeId} {fz : Nat × Nat} (hb : w.heap[loc.b]? = some (.cells arr el fz)) (hoff : off ≤ loc.room) (hlen : c'.length ≤ loc.room - off)
    (hin : ∀ (i : Nat) v, c'[i]? = some v → scalar v = true ∧ ∃ v', arr[loc.o + off + i]? = some v' ∧ VR μ v v') :
    Sim N w0 (μ.put id' ⟨loc.b, loc.o + off, loc.room - off⟩) ((T.era id).put id' (.cells false c')) w := by
  have hle : μ.le (μ.put id' ⟨loc.b, loc.o + off, loc.room - off⟩) := Mu.le_put hμ'
  have hT' : T id' = none := by
    cases hx : T id' with
    | none => rfl
    | some ob => obtain ⟨l, h1, _⟩ := h.obj id' ob hx; rw [hμ'] at h1; cases h1
  have hne : id ≠ id' := fun e => by rw [e, hμ'] at hμ; cases hμ
  obtain ⟨loc0, hl0, arr0, el0, fz0, hb0, h30, h40, h50, h60⟩ := h.obj id _ hT
  rw [hμ] at hl0; cases hl0
  rw [hb] at hb0; cases hb0
  have old : ∀ {i : Nat} {ob : Ob}, (T.era id).put id' (.cells false c') i = some ob → i ≠ id' → i ≠ id ∧ T i = some ob := by
    intro i ob e hi
    rw [Hp.put_ne _ _ hi, Hp.era_get] at e
    split at e
    · cases e
    · rename_i h2; exact ⟨h2, e⟩
  refine ⟨h.below, h.n_le, ?_, fun i ob e => ?_, fun i j oi oj li lj hn hi hj hli hlj hro => ?_, fun i oi li hi hli hro => ?_, fun i li hi hli => ?_⟩
  · obtain ⟨B, hB⟩ := h.dom
    refine ⟨max B (id' + 1), fun j hj => ?_⟩
    rw [Mu.put_ne _ _ (by omega)]
    exact hB j (by omega)
  · by_cases hi : i = id'
    · subst hi
      rw [Hp.put_same] at e
      cases e
      refine ⟨_, Mu.put_same _ _ _, arr, el, fz, hb, hlen, by simp only; omega, fun k v hv => ?_, fun _ => ?_⟩
      · obtain ⟨hs, v', h1, h2⟩ := hin k v hv
        exact ⟨hs, v', h1, h2.mono hle⟩
      · have := h60 rfl
        simp only
        omega
    · obtain ⟨_, e2⟩ := old e hi
      obtain ⟨l, h1, h2⟩ := h.obj i ob e2
      exact ⟨l, hle _ _ h1, h2.mono hle⟩
  · by_cases hii : i = id'
    · subst hii
      rw [Mu.put_same] at hli; cases hli
      obtain ⟨hjd, hj2⟩ := old hj (Ne.symm hn)
      rw [Mu.put_ne _ _ (Ne.symm hn)] at hlj
      have := h.sep id j _ oj loc lj (Ne.symm hjd) hT hj2 hμ hlj rfl
      rcases this with h | h | h
      · exact .inl h
      · exact .inr (.inl (by simp only; omega))
      · exact .inr (.inr (by simp only; omega))
    · obtain ⟨hid2, hi2⟩ := old hi hii
      rw [Mu.put_ne _ _ hii] at hli
      by_cases hjj : j = id'
      · subst hjj
        rw [Mu.put_same] at hlj; cases hlj
        have := h.sep i id oi _ li loc hid2 hi2 hT hli hμ hro
        rcases this with h | h | h
        · exact .inl h
        · exact .inr (.inl (by simp only; omega))
        · exact .inr (.inr (by simp only; omega))
      · obtain ⟨_, hj2⟩ := old hj hjj
        rw [Mu.put_ne _ _ hjj] at hlj
        exact h.sep i j oi oj li lj hn hi2 hj2 hli hlj hro
  · by_cases hii : i = id'
    · subst hii
      rw [Mu.put_same] at hli; cases hli
      exact h.own id _ loc hT hμ rfl
    · obtain ⟨_, hi2⟩ := old hi hii
      rw [Mu.put_ne _ _ hii] at hli
      exact h.own i oi li hi2 hli hro
  · rw [Mu.put_ne _ _ (by omega)] at hli
    exact h.low i li hi hli

/-- What the model's append does when there is no room: a new row. -/
theorem run_append_new {t u e : TypeId} {ty : TypeId} {i : TypeInfo} {zv : Value} {d : TypeDesc} (ht : P.underlying t = some (.slice e)) (hu : P.underlying u = some d) (hd : ∀ k, d ≠ .int k)
    (hi : P.info? e = some i) (hz : i.zero = some zv) {base : Option Addr} {sLen sCap k : Nat} {x : Value} {old new : List Value} (hlen : Builtin.lenOf x = Sem.pure k) (hg : sCap < sLen + k)
    (hneed : (sLen + k) * i.bytes ≤ 70368744177664) (hn2 : sLen + k ≤ 70368744177664)
    (hold : (Builtin.firstCells i.size sLen (.slice base sLen sCap)).run P w.drew = .ok old.toArray w.drew) (hnew : (Builtin.firstCells i.size k x).run P w.drew = .ok new.toArray w.drew) :
    (Builtin.append_ #[t, u] ty #[.slice base sLen sCap, x]).run P w =
      .ok (.slice (some ⟨w.heap.size, 0, none⟩) (sLen + k) (grownCap w (sLen + k) sCap e))
        (w.drew.alloc (.cells (old.toArray ++ new.toArray ++ Builtin.zeroCells zv.cells (grownCap w (sLen + k) sCap e - (sLen + k))) e)) := by
  have hzero : ∀ k, d = .int k → False := fun k e => hd k e
  have h1 : ¬ (sLen + k ≤ sCap) := by omega
  have hb := nextslicecap_le hg
  have h3 : Builtin.nextslicecap (sLen + k) sCap * i.bytes ≤ 140737488355328 := by
    have : Builtin.nextslicecap (sLen + k) sCap * i.bytes ≤ 2 * (sLen + k) * i.bytes := Nat.mul_le_mul_right _ hb
    rw [Nat.mul_assoc] at this
    omega
  have hq : (Question.appendCap (sLen + k) sCap e).forced = false := rfl
  have h3' : ¬ (281474976710656 < Builtin.nextslicecap (sLen + k) sCap * i.bytes) := by omega
  have hgc : (Question.appendCap (sLen + k) sCap e).cut (w.tape w.drawn (.appendCap (sLen + k) sCap e)) = grownCap w (sLen + k) sCap e := rfl
  simp [Builtin.append_, rUnder ht, rUnder hu, rSize (show szOf P e = some i.size by simp [szOf, hi]), hlen, h1, h3', rInfo hi, hq, hgc, hold, hnew, rZero hi hz, run_newRow]
  have h2' : ¬ ((9223372036854775807 : Int) < (sLen : Int) + (k : Int) ∧ i.bytes = 0) := by omega
  rw [if_neg h2']
  simp only [Result.ok.injEq, true_and]
  have hon : old.toArray ++ new.toArray = (old ++ new).toArray := by simp
  rw [← Array.append_assoc, hon]

/-- What it does where there is room: the cells behind are written over. -/
theorem run_append_in {t u e : TypeId} {ty : TypeId} {m : Nat} {d : TypeDesc} (ht : P.underlying t = some (.slice e)) (hu : P.underlying u = some d) (hd : ∀ k, d ≠ .int k)
    (hi : szOf P e = some m) {b : Addr} {sLen sCap k : Nat} {x : Value} {new : List Value} {w' : World} (hlen : Builtin.lenOf x = Sem.pure k) (hg : sLen + k ≤ sCap)
    (hnew : (Builtin.firstCells m k x).run P w = .ok new.toArray w) (hst : (storeCells (b.add (sLen * m)) new).run P w = .ok () w') :
    (Builtin.append_ #[t, u] ty #[.slice (some b) sLen sCap, x]).run P w = .ok (.slice (some b) (sLen + k) sCap) w' := by
  have hzero : ∀ k, d = .int k → False := fun k e => hd k e
  simp [Builtin.append_, rUnder ht, rUnder hu, rSize hi, hlen, hg, hnew, hst]

theorem exec_append {t u : TypeId} {s x : Operand} (ho : o.op = .call { callee := .builtin .append, args := #[s, x], argTypes := #[t, u] }) :
    (execOp a.eval o).run P w = ((Builtin.append_ #[t, u] o.type #[a.eval s, a.eval x]).run P w).andThen fun v w' => .ok (.value v) w' := by
  have hargs : (#[s, x].map a.eval) = #[a.eval s, a.eval x] := by simp
  exact exec_builtin (P := P) (w := w) ho fun cs => by rw [hargs]; rfl

theorem val_appendNil (c : Cx P N w0 μ H T n tm a w) {t u e : TypeId} {d : TypeDesc} {s x : Operand} {as ax : AOpr} {v : Value} {m : Nat} {cs : List Value}
    (ho : o.op = .call { callee := .builtin .append, args := #[s, x], argTypes := #[t, u] }) (ht : P.underlying t = some (.slice e)) (hu : P.underlying u = some d) (hd : ∀ k, d ≠ .int k) (hi : szOf P e = some m)
    (h1 : cOpr P s = some as) (h2 : cOpr P x = some ax) (hs : aev H tm as = some (.slice none 0 0)) (hx : aev H tm ax = some v) (hk : apCells H m v = some (0, cs)) : ValOk P μ o a w (.slice none 0 0) := by
  have hrs := c.aev h1 hs
  obtain ⟨_, _, hlen, hf⟩ := c.apCells hk (c.aev h2 hx)
  obtain ⟨cs', h3, _⟩ := hf 0 (Nat.le_refl _)
  have es : a.eval s = .slice none 0 0 := by generalize a.eval s = q at hrs; cases hrs; rfl
  refine ⟨.slice none 0 0, ?_, .nils⟩
  have hzero : ∀ k, d = .int k → False := fun k e => hd k e
  rw [exec_append (P := P) (w := w) ho, es]
  simp [Builtin.append_, rUnder ht, rUnder hu, rSize hi, hlen, h3]


theorem Cx.drew (c : Cx P N w0 μ H T n tm a w) : Cx P N w0 μ H T n tm a w.drew := ⟨c.hs, c.sim.drawn _, c.hG, c.tr⟩

theorem zeroCells_size (z : Array Value) (m : Nat) : (Builtin.zeroCells z m).size = m * z.size := by simp [Builtin.zeroCells]

/-- An append that makes a new row. -/
theorem Cx.app_new' (c : Cx P N w0 μ H T n tm a w) {t u e : TypeId} {ti : TypeInfo} {z : List Value} {d : TypeDesc} {s x : Operand}
    (ho : o.op = .call { callee := .builtin .append, args := #[s, x], argTypes := #[t, u] }) (ht : P.underlying t = some (.slice e)) (hu : P.underlying u = some d) (hd : ∀ k, d ≠ .int k)
    (hi : P.info? e = some ti) (hz : zeroL P e = some z) {base : Option Addr} {sLen sCap k : Nat} {cs ds : List Value} (hes : a.eval s = .slice base sLen sCap)
    {vs vx : Value} (hvs : VR μ vs (a.eval s)) (hvx : VR μ vx (a.eval x)) (has : Ab.apCells H ti.size vs = some (sLen, cs)) (hax : Ab.apCells H ti.size vx = some (k, ds))
    (hg : sCap < sLen + k) (hneed : (sLen + k) * ti.bytes ≤ 70368744177664) (hn2 : sLen + k ≤ 70368744177664) (er : Option Nat) :
    AppOk P N w0 μ T o a w er (.cells false (cs ++ ds)) (.slice (sLen + k) ti.size) := by
  obtain ⟨i, zv, hi', hzv, rfl, hok, hzl⟩ := zeroL_spec hz
  rw [hi] at hi'; cases hi'
  obtain ⟨l1, sc1, len1, f1⟩ := c.drew.apCells has hvs
  obtain ⟨l2, sc2, len2, f2⟩ := c.drew.apCells hax hvx
  obtain ⟨old, g1, r1⟩ := f1 sLen (Nat.le_refl _)
  obtain ⟨new, g2, r2⟩ := f2 k (Nat.le_refl _)
  rw [List.take_of_length_le (by omega)] at r1 r2
  rw [hes] at g1
  have hrun := run_append_new (P := P) (w := w) (ty := o.type) ht hu hd hi hzv len2 hg hneed hn2 g1 g2
  have hcap : sLen + k ≤ grownCap w (sLen + k) sCap e := by simp only [grownCap, Question.cut]; omega
  intro id hid hμ
  have hzs : zv.cells.size = ti.size := by rw [cellsL_size]; exact hzl
  have hsz : (old.toArray ++ new.toArray ++ Builtin.zeroCells zv.cells (grownCap w (sLen + k) sCap e - (sLen + k))).size = grownCap w (sLen + k) sCap e * ti.size := by
    rw [Array.size_append, Array.size_append, List.size_toArray, List.size_toArray, zeroCells_size, hzs, ← r1.1, ← r2.1, l1, l2, ← Nat.add_mul, ← Nat.add_mul]
    congr 1
    omega
  have hlen12 : (cs ++ ds).length = old.length + new.length := by rw [List.length_append, r1.1, r2.1]
  have hrow := ((c.sim.drawn (w.drawn + 1)).eraO er).row (w := w.drew) hid hμ (c := cs ++ ds)
    (arr := old.toArray ++ new.toArray ++ Builtin.zeroCells zv.cells (grownCap w (sLen + k) sCap e - (sLen + k))) e (0, 0)
    (by rw [Array.size_append, Array.size_append, List.size_toArray, List.size_toArray]; omega)
    (fun v hv => by
      rcases List.mem_append.1 hv with h | h
      · exact sc1 v h
      · exact sc2 v h)
    (fun i v hv => by
      obtain ⟨v', h1, h2⟩ := (r1.append r2).get hv
      refine ⟨v', ?_, h2⟩
      have hil : i < (old ++ new).length := (List.getElem?_eq_some_iff.1 h1).1
      have hon : old.toArray ++ new.toArray = (old ++ new).toArray := by simp
      rw [hon, Array.getElem?_append_left (by simpa using hil)]
      simpa using h1) (by simp)
  refine ⟨.slice (some ⟨w.heap.size, 0, none⟩) (sLen + k) (grownCap w (sLen + k) sCap e), _, _, ?_, Mu.le_put hμ, hrow, ?_⟩
  · rw [exec_append (P := P) (w := w) ho, hes, hrun]
    rfl
  · have := VR.slice (μ := μ.put id ⟨w.drew.heap.size, 0, (old.toArray ++ new.toArray ++ Builtin.zeroCells zv.cells (grownCap w (sLen + k) sCap e - (sLen + k))).size⟩) id 0 (sLen + k)
      (grownCap w (sLen + k) sCap e) ti.size _ (Mu.put_same _ _ _) hcap (by simp only [Nat.zero_add]; exact Nat.le_of_eq hsz.symm)
    exact this

theorem app_nil (c : Cx P N w0 μ H T n tm a w) {t u e : TypeId} {ti : TypeInfo} {z : List Value} {d : TypeDesc} {s x : Operand} {as ax : AOpr} {v : Value} {k : Nat} {ds : List Value}
    (ho : o.op = .call { callee := .builtin .append, args := #[s, x], argTypes := #[t, u] }) (ht : P.underlying t = some (.slice e)) (hu : P.underlying u = some d) (hd : ∀ k, d ≠ .int k)
    (hi : P.info? e = some ti) (hz : zeroL P e = some z) (h1 : cOpr P s = some as) (h2 : cOpr P x = some ax) (hs : aev H tm as = some (.slice none 0 0)) (hx : aev H tm ax = some v)
    (hk : apCells H ti.size v = some (k, ds)) (hk0 : k ≠ 0) (hneed : k * ti.bytes ≤ 70368744177664) (hn2 : k ≤ 70368744177664) :
    AppOk P N w0 μ T o a w none (.cells false ds) (.slice k ti.size) := by
  have hrs := c.aev h1 hs
  have hes : a.eval s = .slice none 0 0 := by generalize a.eval s = q at hrs; cases hrs; rfl
  have := c.app_new' ho ht hu hd hi hz hes hrs (c.aev h2 hx) (cs := []) (ds := ds) rfl hk (by omega) (by simpa using hneed) (by simpa using hn2) none
  simpa using this

theorem drop_take_append {α : Type} (l d : List α) (o m : Nat) (h : o + m ≤ l.length) : (l.take (o + m) ++ d).drop o = (l.drop o).take m ++ d := by
  rw [List.drop_append_of_le_length (by rw [List.length_take]; omega), List.drop_take]
  congr 2
  omega

theorem app_some (c : Cx P N w0 μ H T n tm a w) {t u e : TypeId} {ti : TypeInfo} {z : List Value} {d : TypeDesc} {s x : Operand} {as ax : AOpr} {v : Value} {id off len k : Nat} {sp : Option Nat} {cs ds all : List Value}
    (ho : o.op = .call { callee := .builtin .append, args := #[s, x], argTypes := #[t, u] }) (ht : P.underlying t = some (.slice e)) (hu : P.underlying u = some d) (hd : ∀ k, d ≠ .int k)
    (hi : P.info? e = some ti) (hz : zeroL P e = some z) (h1 : cOpr P s = some as) (h2 : cOpr P x = some ax) {e0 : Nat} (hs : aev H tm as = some (.slice (some ⟨id, off, sp⟩) len e0)) (hx : aev H tm ax = some v)
    (hsl : slCells H ti.size (.slice (some ⟨id, off, sp⟩) len e0) = some cs) (hk : apCells H ti.size v = some (k, ds)) (hH : H id = some (.cells false all))
    (hneed : (len + k) * ti.bytes ≤ 70368744177664) (hn2 : len + k ≤ 70368744177664) :
    AppOk P N w0 μ T o a w (some id) (.cells false (cs ++ ds)) (.slice (len + k) ti.size) := by
  have hrs := c.aev h1 hs
  have hrx := c.aev h2 hx
  have has : apCells H ti.size (.slice (some ⟨id, off, sp⟩) len e0) = some (len, cs) := by simp only [apCells, hsl]
  obtain ⟨l2, sc2, len2, f2⟩ := c.apCells hk hrx
  obtain ⟨new, g2, r2⟩ := f2 k (Nat.le_refl _)
  rw [List.take_of_length_le (by omega)] at r2
  have hsz : szOf P e = some ti.size := by simp [szOf, hi]
  obtain ⟨loc, hloc, hob⟩ := c.get hH
  have hroom : all.length ≤ loc.room := by obtain ⟨_, _, _, _, h3, _⟩ := hob; exact h3
  have hscd : ∀ x ∈ ds, scalar x = true := sc2
  -- an empty slice without room, nothing appended
  have empty : ∀ b : Addr, a.eval s = .slice (some b) 0 0 → len = 0 → k = 0 → off ≤ all.length → cs = [] →
      AppOk P N w0 μ T o a w (some id) (.cells false (cs ++ ds)) (.slice (len + k) ti.size) := by
    intro b hes hl0 hk0 hoff hcs
    subst hl0; subst hk0; subst hcs
    have hds : ds = [] := List.length_eq_zero_iff.1 (by rw [l2]; simp)
    subst hds
    have hnew : new = [] := List.length_eq_zero_iff.1 (by rw [← r2.1]; rfl)
    subst hnew
    intro id' hid hμ'
    obtain ⟨arr, el, fz, hb, h3, h4, h5, h6⟩ := hob
    refine ⟨.slice (some b) 0 0, w, _, ?_, Mu.le_put hμ', c.sim.rename off (c.hs _ _ hH) hloc hid hμ' hb (by omega) (by simp) (by simp), .slice0 _ _ _⟩
    rw [exec_append (P := P) (w := w) ho, hes]
    have := run_append_in (P := P) (w := w) (ty := o.type) (b := b) (sLen := 0) (sCap := 0) ht hu hd hsz len2 (Nat.le_refl _) g2 (w' := w) rfl
    rw [this]
    rfl
  rcases c.slCells hsl hrs with ⟨e1, _, _⟩ | ⟨id2, off2, len2', b, o', cap, ro, all2, e1, e2, hH2, hlen, hcs, hcl, hsc, hcells, loc2, hl2, hcase⟩ | ⟨id2, off2, b, ro, all2, e1, e2, hH2, hlen, hcs⟩
  · cases e1
  · cases e1
    rw [hH] at hH2; cases hH2
    rw [hloc] at hl2; cases hl2
    by_cases hfit : len + k ≤ cap
    · rcases hcase with ⟨rfl, rfl, hc1, hc2⟩ | ⟨rfl, rfl⟩
      · intro id' hid hμ'
        obtain ⟨arr, el, fz, hb, h3, h4, h5, h6⟩ := hob
        have hcapm : (len + k) * ti.size ≤ cap * ti.size := Nat.mul_le_mul_right _ hfit
        rw [Nat.add_mul] at hcapm
        have hnl : new.length = k * ti.size := by rw [← r2.1, l2]
        have hscn : ∀ v ∈ new, scalar v = true := by
          intro v hv
          obtain ⟨i, hi⟩ := List.getElem?_of_mem hv
          have hlt : i < ds.length := by have := (List.getElem?_eq_some_iff.1 hi).1; omega
          have := r2.2 i ds[i] v (by simp [hlt]) hi
          rw [this.scalar]
          exact hscd _ (List.getElem_mem hlt)
        have hst := run_storeList (P := P) (el := el) (fz := fz) new (loc.o + off + len * ti.size) 0 w arr hb (by omega) hscn (fun j g1 g2 => by have := h6 rfl; omega)
        simp only [Nat.add_zero] at hst
        -- the object with what is appended, and then renamed
        have hc' : (all.take (off + len * ti.size) ++ ds).length ≤ loc.room := by
          rw [List.length_append, List.length_take, l2]; omega
        have hin : ∀ (i : Nat) v, (all.take (off + len * ti.size) ++ ds)[i]? = some v → scalar v = true ∧ ∃ v', (spl arr.toList (loc.o + off + len * ti.size) new).toArray[loc.o + i]? = some v' ∧ VR μ v v' := by
          intro i v hv
          rw [splA_get]
          by_cases hil : i < off + len * ti.size
          · rw [List.getElem?_append_left (by rw [List.length_take]; omega), List.getElem?_take, if_pos hil] at hv
            rw [if_neg (by omega)]
            exact h5 i v hv
          · rw [List.getElem?_append_right (by rw [List.length_take]; omega), List.length_take] at hv
            have e0 : min (off + len * ti.size) all.length = off + len * ti.size := by omega
            rw [e0] at hv
            have hlt : i - (off + len * ti.size) < ds.length := (List.getElem?_eq_some_iff.1 hv).1
            rw [if_pos (by omega)]
            have e1 : loc.o + i - (loc.o + off + len * ti.size) = i - (off + len * ti.size) := by omega
            rw [e1]
            obtain ⟨v', q1, q2⟩ := r2.get hv
            exact ⟨hscd v (List.mem_of_getElem? hv), v', q1, q2⟩
        have hsim1 := c.sim.upd (c.hs _ _ hH) hloc hb (arr' := (spl arr.toList (loc.o + off + len * ti.size) new).toArray) (by rw [List.size_toArray, spl_len, Array.length_toList])
          (fun j hj => by rw [splA_get, if_neg (by omega)]) hc' hin
        have hbl : loc.b < w.heap.size := (Array.getElem?_eq_some_iff.1 hb).1
        have hsim2 := hsim1.rename off (Hp.put_same _ _ _) hloc hid hμ' (c' := cs ++ ds) (setBlk_same hbl) (by omega)
          (by rw [List.length_append, hcl, l2]; omega) (fun i v hv => by
            rw [hcs, ← drop_take_append all ds off (len * ti.size) (by omega), List.getElem?_drop] at hv
            have q := hin _ v hv
            rwa [show loc.o + (off + i) = loc.o + off + i from by omega] at q)
        have hera : ((T.put id (.cells false (all.take (off + len * ti.size) ++ ds))).era id) = T.era id := by
          refine Hp.ext' fun j => ?_
          rw [Hp.era_get, Hp.era_get, Hp.put_get]
          split <;> rfl
        rw [hera] at hsim2
        refine ⟨.slice (some ⟨loc.b, loc.o + off, none⟩) (len + k) cap, _, _, ?_, Mu.le_put hμ', hsim2, ?_⟩
        · rw [exec_append (P := P) (w := w) ho, e2]
          have := run_append_in (P := P) (w := w) (ty := o.type) (b := ⟨loc.b, loc.o + off, none⟩) (sLen := len) (sCap := cap) ht hu hd hsz len2 hfit g2 (by rw [addr_add]; exact hst)
          rw [this]
          rfl
        · have := VR.slice (μ := μ.put id' ⟨loc.b, loc.o + off, loc.room - off⟩) id' 0 (len + k) cap ti.size _ (Mu.put_same _ _ _) hfit (by simp only; omega)
          exact this
      · exact empty _ e2 rfl (by omega) (by omega) (by rw [hcs]; simp)
    · exact c.app_new' ho ht hu hd hi hz e2 hrs hrx has hk (by omega) hneed hn2 (some id)
  · cases e1
    rw [hH] at hH2; cases hH2
    by_cases hk0 : k = 0
    · exact empty _ e2 rfl hk0 hlen hcs
    · exact c.app_new' ho ht hu hd hi hz e2 hrs hrx has hk (by omega) hneed hn2 (some id)

theorem wr_copy (c : Cx P N w0 μ H T n tm a w) {ts : Array TypeId} {t t2 e : TypeId} {size : Nat} {s x : Operand} {as ax : AOpr} {v : Value} {id off len k e0 : Nat} {sp : Option Nat} {cs ds all : List Value}
    (ho : o.op = .call { callee := .builtin .copy, args := #[s, x], argTypes := ts }) (hts : ts.toList = [t, t2]) (ht : P.underlying t = some (.slice e)) (hsz : szOf P e = some size)
    (h1 : cOpr P s = some as) (h2 : cOpr P x = some ax) (hs : aev H tm as = some (.slice (some ⟨id, off, sp⟩) len e0)) (hx : aev H tm ax = some v)
    (hsl : slCells H size (.slice (some ⟨id, off, sp⟩) len e0) = some cs) (hk : apCells H size v = some (k, ds)) (hH : H id = some (.cells false all)) :
    WrOk P N w0 μ T o a w id (.cells false (spl all off (ds.take cs.length))) (.int .i64 (min k len)) := by
  have et : ts = #[t, t2] := by rw [← Array.toList_inj]; exact hts
  subst et
  have hrs := c.aev h1 hs
  obtain ⟨l2, sc2, len2, f2⟩ := c.apCells hk (c.aev h2 hx)
  obtain ⟨new, g2, r2⟩ := f2 (Nat.min k len) (Nat.min_le_left _ _)
  obtain ⟨loc, hloc, hob⟩ := c.get hH
  have hargs : (#[s, x].map a.eval) = #[a.eval s, a.eval x] := by simp
  have hex := exec_builtin (P := P) (w := w) (a := a) (s := Builtin.copy_ #[t, t2] o.type #[a.eval s, a.eval x]) ho fun cs => by rw [hargs]; rfl
  have hself : T.put id (.cells false all) = T := by
    refine Hp.ext' fun j => ?_
    by_cases hj : j = id
    · subst hj; rw [Hp.put_same, c.hs _ _ hH]
    · rw [Hp.put_ne _ _ hj]
  have hmin : ((Nat.min k len : Nat) : Int) = min (k : Int) (len : Int) := by show ((min k len : Nat) : Int) = _; omega
  have empty : ∀ b : Addr, a.eval s = .slice (some b) 0 0 → len = 0 → cs = [] → WrOk P N w0 μ T o a w id (.cells false (spl all off (ds.take cs.length))) (.int .i64 (min k len)) := by
    intro b hes hl0 hcs
    subst hl0; subst hcs
    have hnew : new = [] := List.length_eq_zero_iff.1 (by rw [← r2.1]; simp)
    subst hnew
    refine ⟨.value (.int .i64 (min k 0 : Nat)), .int .i64 (min k 0 : Nat), w, ?_, .inl rfl, ?_, by rw [← hmin]; exact .int _ _⟩
    · rw [hex, hes]
      simp only [Nat.min_zero] at g2
      simp [Builtin.copy_, rUnder ht, len2, rSize hsz, g2, goInt]
      rfl
    · simp only [List.length_nil, List.take_zero, spl]
      rw [hself]
      exact c.sim
  rcases c.slCells hsl hrs with ⟨e1, _, _⟩ | ⟨id2, off2, len2', b, o', cap, ro, all2, e1, e2, hH2, hlen, hcs, hcl, hsc, hcells, loc2, hl2, hcase⟩ | ⟨id2, off2, b, ro, all2, e1, e2, hH2, hlen, hcs⟩
  · cases e1
  · cases e1
    rw [hH] at hH2; cases hH2
    rw [hloc] at hl2; cases hl2
    rcases hcase with ⟨rfl, rfl, hc1, hc2⟩ | ⟨rfl, rfl⟩
    · have htk : ds.take cs.length = ds.take (Nat.min k len * size) := by
        rw [hcl]
        by_cases hkl : k ≤ len
        · have : Nat.min k len = k := Nat.min_eq_left hkl
          rw [this, List.take_of_length_le (by rw [l2]; exact Nat.mul_le_mul_right _ hkl), List.take_of_length_le (by omega)]
        · have : Nat.min k len = len := Nat.min_eq_right (by omega)
          rw [this]
      rw [htk]
      have hle : Nat.min k len * size ≤ len * size := Nat.mul_le_mul_right _ (Nat.min_le_right _ _)
      obtain ⟨w', hst, hsim⟩ := c.sim.splice (P := P) (off := off) (xs := ds.take (Nat.min k len * size)) (xs' := new) (c.hs _ _ hH) hloc (by rw [List.length_take]; omega) r2
        (fun v hv => sc2 v (List.mem_of_mem_take hv))
      refine ⟨.value (.int .i64 (Nat.min k len : Nat)), .int .i64 (Nat.min k len : Nat), w', ?_, .inl rfl, hsim, by rw [← hmin]; exact .int _ _⟩
      rw [hex, e2]
      simp only [Builtin.copy_, List.getElem?_toArray, List.getElem?_cons_zero, List.getElem?_cons_succ, Sem.run_bind, rUnder ht, Result.andThen_ok, len2, Sem.run_pure', rSize hsz, g2, hst, Sem.run_pure, goInt]
    · exact empty _ e2 rfl (by rw [hcs]; simp)
  · cases e1
    exact empty _ e2 rfl hcs

end
end Go.Ab
