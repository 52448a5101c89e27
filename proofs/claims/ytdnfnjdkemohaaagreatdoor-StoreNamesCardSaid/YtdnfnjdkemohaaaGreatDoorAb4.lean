/- The light operations, one by one: the value that the abstract operation tells is the model's. -/
import Derived.Test.YtdnfnjdkemohaaaGreatDoorAb3
namespace Go.Ab

/-- What a light operation owes. -/
def ValOk (P : Program) (μ : Mu) (o : Oper) (a : Act) (w : World) (v : Value) : Prop :=
  ∃ v', (execOp a.eval o).run P w = .ok (.value v') w ∧ VR μ v v'

section
variable {P : Program} {N : Nat} {w0 : World} {μ : Mu} {H T : Hp} {n : Nat} {tm : Tm} {a : Act} {w : World} {o : Oper}

theorem VR.cells_get {cs cs' : Array Value} (h : VR μ (.agg cs) (.agg cs')) {j : Nat} {v : Value} (hv : cs.toList[j]? = some v) :
    ∃ v', cs'[j]? = some v' ∧ VR μ v v' := by
  obtain ⟨v', h1, h2⟩ := (VR.agg_list.1 h).get hv
  exact ⟨v', by simpa using h1, h2⟩

theorem VR.agg_inv {cs : Array Value} {v' : Value} (h : VR μ (.agg cs) v') : ∃ cs', v' = .agg cs' ∧ VRL μ cs.toList cs'.toList := by
  cases h with
  | agg _ c' hc hcv => exact ⟨c', rfl, VR.agg_list.1 (.agg _ _ hc hcv)⟩

theorem VR.tuple_inv {cs : Array Value} {v' : Value} (h : VR μ (.tuple cs) v') : ∃ cs', v' = .tuple cs' ∧ VRL μ cs.toList cs'.toList := by
  cases h with
  | tuple _ c' hc hcv => exact ⟨c', rfl, by simpa using hc, fun i v v' a b => hcv i v v' (by simpa using a) (by simpa using b)⟩

theorem VR.int_inv {k : IntKind} {i : Int} {v' : Value} (h : VR μ (.int k i) v') : v' = .int k i := by cases h; rfl
theorem VR.bool_inv {b : Bool} {v' : Value} (h : VR μ (.bool b) v') : v' = .bool b := by cases h; rfl
theorem VR.string_inv {s : ByteArray} {v' : Value} (h : VR μ (.string s) v') : v' = .string s := by cases h; rfl
theorem VR.float_inv {k : FloatKind} {i : Nat} {v' : Value} (h : VR μ (.float k i) v') : v' = .float k i := by cases h; rfl
theorem VR.ptr_inv {id o : Nat} {v' : Value} (h : VR μ (.pointer (some ⟨id, o, none⟩)) v') :
    ∃ loc, μ id = some loc ∧ v' = .pointer (some ⟨loc.b, loc.o + o, none⟩) := by
  cases h with
  | ptr _ _ loc h => exact ⟨loc, h, rfl⟩
theorem VR.nilp_inv {v' : Value} (h : VR μ (.pointer none) v') : v' = .pointer none := by cases h; rfl

theorem val_mov (c : Cx P N w0 μ H T n tm a w) {x : Operand} {ax : AOpr} {v : Value} (ho : o.op = .move x ∨ o.op = .assign x) (h1 : cOpr P x = some ax)
    (h2 : aev H tm ax = some v) : ValOk P μ o a w v := by
  refine ⟨a.eval x, ?_, c.aev h1 h2⟩
  rcases ho with ho | ho <;> simp [execOp, ho]

theorem val_pick (c : Cx P N w0 μ H T n tm a w) {x y z : Operand} {ax ay az : AOpr} {b : Bool} {v : Value} (ho : o.op = .pick x y z) (h1 : cOpr P x = some ax)
    (h2 : cOpr P y = some ay) (h3 : cOpr P z = some az) (hb : aev H tm ax = some (.bool b)) (hv : aev H tm (if b then ay else az) = some v) : ValOk P μ o a w v := by
  have hx := (c.aev h1 hb).bool_inv
  cases b
  · exact ⟨a.eval z, by simp [execOp, ho, hx, asBool], c.aev h3 hv⟩
  · exact ⟨a.eval y, by simp [execOp, ho, hx, asBool], c.aev h2 hv⟩

theorem addr_add (b o k : Nat) : (⟨b, o, none⟩ : Addr).add k = ⟨b, o + k, none⟩ := by
  unfold Addr.add
  split
  · rename_i h; subst h; rfl
  · rfl

theorem val_load (c : Cx P N w0 μ H T n tm a w) {t : TypeId} {x : Operand} {ax : AOpr} {m : Nat} {d : TypeDesc} {id off : Nat} {ro : Bool} {cs : List Value} {v : Value}
    (ho : o.op = .load t x) (h1 : cOpr P x = some ax) (hz : szOf P t = some m) (hd : P.underlying t = some d)
    (hx : aev H tm ax = some (.pointer (some ⟨id, off, none⟩))) (hH : H id = some (.cells ro cs))
    (hv : if isAggD (some d) then off + m ≤ cs.length ∧ v = .agg ((cs.drop off).take m).toArray else cs[off]? = some v) : ValOk P μ o a w v := by
  obtain ⟨loc, hl, he⟩ := (c.aev h1 hx).ptr_inv
  obtain ⟨loc', hl', hlen, hcell⟩ := c.cell hH
  rw [hl] at hl'; cases hl'
  split at hv
  · rename_i hagg
    obtain ⟨hv1, rfl⟩ := hv
    -- the cells that are read
    have hall : ∀ j, j < m → ∃ v', w.cell? ⟨loc.b, loc.o + off + j, none⟩ = some v' ∧ ∃ u, cs[off + j]? = some u ∧ VR μ u v' := by
      intro j hj
      have hlt : off + j < cs.length := by omega
      obtain ⟨_, v', h3, h4⟩ := hcell (off + j) cs[off + j] (by simp [hlt])
      exact ⟨v', by rw [Nat.add_assoc]; exact h3, cs[off + j], by simp [hlt], h4⟩
    let f : Nat → Value := fun j => (w.cell? ⟨loc.b, loc.o + off + j, none⟩).getD undef
    have hf : ∀ j, j < m → w.cell? ((⟨loc.b, loc.o + off, none⟩ : Addr).add j) = some (f j) := by
      intro j hj
      obtain ⟨v', h3, _⟩ := hall j hj
      rw [addr_add]
      simp [f, h3]
    have hrun := run_loadCells (P := P) (w := w) ⟨loc.b, loc.o + off, none⟩ m f hf
    refine ⟨.agg ((List.range m).map f).toArray, ?_, ?_⟩
    · simp [execOp, ho, Instr.loadAt, he, Instr.sureAddr, loadVar, rAgg hd, hagg, rSize hz]
      simp only [hrun, Result.andThen_ok]
    · refine VR.agg_list.2 ⟨?_, fun i u u' hu hu' => ?_⟩
      · simp; omega
      · simp only at hu hu'
        rw [List.getElem?_take] at hu
        split at hu
        · rename_i hi
          obtain ⟨v', h3, u2, h4, h5⟩ := hall i hi
          rw [List.getElem?_drop, h4] at hu
          cases hu
          rw [List.getElem?_map, List.getElem?_range hi] at hu'
          simp only [Option.map_some, Option.some.injEq] at hu'
          subst hu'
          simp only [f, h3, Option.getD_some]
          exact h5
        · cases hu
  · rename_i hagg
    obtain ⟨_, v', h3, h4⟩ := hcell off v hv
    refine ⟨v', ?_, h4⟩
    simp [execOp, ho, Instr.loadAt, he, Instr.sureAddr, loadVar, rAgg hd, hagg, h3]

theorem val_loadB (c : Cx P N w0 μ H T n tm a w) {t : TypeId} {x : Operand} {ax : AOpr} {m B : Nat} {d : TypeDesc} {id off : Nat} {p s v : Value}
    (ho : o.op = .load t x) (h1 : cOpr P x = some ax) (hz : szOf P t = some m) (hd : P.underlying t = some d)
    (hx : aev H tm ax = some (.pointer (some ⟨id, off, none⟩))) (hH : H id = some (.bld B p s)) (hagg : isAggD (some d) = false)
    (hv : (off = 0 ∧ v = p) ∨ (off = 1 ∧ v = s)) : ValOk P μ o a w v := by
  obtain ⟨loc, hl, he⟩ := (c.aev h1 hx).ptr_inv
  obtain ⟨loc', hl', g1, g2, g3, g4, p', s', fz, g5, g6, g7, g8⟩ := c.get hH
  rw [hl] at hl'; cases hl'
  have hc : ∃ v', w.cell? ⟨loc.b, loc.o + off, none⟩ = some v' ∧ VR μ v v' := by
    rcases hv with ⟨rfl, rfl⟩ | ⟨rfl, rfl⟩
    · exact ⟨p', by simp [World.cell?, g5, g1], g6⟩
    · exact ⟨s', by simp [World.cell?, g5, g1], g7⟩
  obtain ⟨v', h3, h4⟩ := hc
  refine ⟨v', ?_, h4⟩
  simp [execOp, ho, Instr.loadAt, he, Instr.sureAddr, loadVar, rAgg hd, hagg, h3]

theorem val_nilCheck (c : Cx P N w0 μ H T n tm a w) {x : Operand} {ax : AOpr} {v : Value} (ho : o.op = .nilCheck x) (h1 : cOpr P x = some ax)
    (h2 : aev H tm ax = some v) (hv : (∃ b, v = .pointer (some b)) ∨ ∃ f p q, v = .func (.func f) p q) : ValOk P μ o a w v := by
  have hr := c.aev h1 h2
  refine ⟨a.eval x, ?_, hr⟩
  rcases hv with ⟨b, rfl⟩ | ⟨f, p, q, rfl⟩
  · generalize he : a.eval x = e at hr
    cases hr
    simp [execOp, ho, he]
  · generalize he : a.eval x = e at hr
    cases hr
    simp [execOp, ho, he]

theorem val_off (c : Cx P N w0 μ H T n tm a w) {s : TypeId} {x : Operand} {f : Nat} {fs : Array Field} {fd : Field} {m : Nat} {ax : AOpr} {id off : Nat}
    (ho : o.op = .fieldAddr s x f) (hs : P.underlying s = some (.struct fs)) (hf : fs[f]? = some fd) (hz : szOf P fd.type = some m) (hm : m ≠ 0)
    (h1 : cOpr P x = some ax) (h2 : aev H tm ax = some (.pointer (some ⟨id, off, none⟩))) : ValOk P μ o a w (.pointer (some ⟨id, off + fd.offset, none⟩)) := by
  obtain ⟨loc, hl, he⟩ := (c.aev h1 h2).ptr_inv
  refine ⟨.pointer (some ⟨loc.b, loc.o + (off + fd.offset), none⟩), ?_, .ptr _ _ loc hl⟩
  simp [execOp, ho, Instr.fieldAt, rUnder hs, hf, he, Instr.sureAddr, fieldPlace, rSize hz, hm, addr_add, Nat.add_assoc]

theorem run_part {t : TypeId} {d : TypeDesc} {m : Nat} {cs : Array Value} {cl : List Value} {off : Nat} {v : Value} (hd : P.underlying t = some d) (hz : szOf P t = some m)
    (hc : VRL μ cl cs.toList)
    (hv : if isAggD (some d) then v = .agg ((cl.drop off).take m).toArray else cl[off]? = some v) :
    ∃ v', (part t cs off).run P w = .ok v' w ∧ VR μ v v' := by
  split at hv
  · rename_i hagg
    subst hv
    refine ⟨.agg (cs.extract off (off + m)), by simp [part, rAgg hd, hagg, rSize hz], VR.agg_list.2 ?_⟩
    have : (cs.extract off (off + m)).toList = (cs.toList.drop off).take m := by
      simp [Array.toList_extract]
    rw [this]
    simpa using (hc.drop off).take m
  · rename_i hagg
    obtain ⟨v', h1, h2⟩ := hc.get hv
    have h1' : cs[off]? = some v' := by simpa using h1
    exact ⟨v', by simp [part, rAgg hd, hagg, h1'], h2⟩

theorem val_field (c : Cx P N w0 μ H T n tm a w) {s : TypeId} {x : Operand} {f : Nat} {fs : Array Field} {fd : Field} {m : Nat} {d : TypeDesc} {ax : AOpr} {cs : Array Value} {v : Value}
    (ho : o.op = .field s x f) (hs : P.underlying s = some (.struct fs)) (hf : fs[f]? = some fd) (hz : szOf P fd.type = some m) (hd : P.underlying fd.type = some d)
    (h1 : cOpr P x = some ax) (h2 : aev H tm ax = some (.agg cs))
    (hv : if isAggD (some d) then v = .agg ((cs.toList.drop fd.offset).take m).toArray else cs.toList[fd.offset]? = some v) : ValOk P μ o a w v := by
  obtain ⟨cs', he, hr⟩ := (c.aev h1 h2).agg_inv
  obtain ⟨v', h3, h4⟩ := run_part (P := P) (w := w) hd hz hr hv
  exact ⟨v', by simp [execOp, ho, Instr.field, rUnder hs, hf, he, asAgg, h3], h4⟩

theorem val_idxPtr (c : Cx P N w0 μ H T n tm a w) {t e : TypeId} {x i : Operand} {len m : Nat} {ax ai : AOpr} {id off : Nat} {k : IntKind} {j : Int}
    (ho : o.op = .indexAddr t x i) (ht : P.underlying t = some (.array len e)) (hz : szOf P e = some m)
    (h1 : cOpr P x = some ax) (h2 : cOpr P i = some ai) (hx : aev H tm ax = some (.pointer (some ⟨id, off, none⟩))) (hi : aev H tm ai = some (.int k j))
    (hj : 0 ≤ j ∧ j < len) : ValOk P μ o a w (.pointer (some ⟨id, off + j.toNat * m, none⟩)) := by
  obtain ⟨loc, hl, he⟩ := (c.aev h1 hx).ptr_inv
  have hi' := (c.aev h2 hi).int_inv
  refine ⟨.pointer (some ⟨loc.b, loc.o + (off + j.toNat * m), none⟩), ?_, .ptr _ _ loc hl⟩
  simp [execOp, ho, Instr.indexAt, rUnder ht, he, hi', asIntOf, Instr.sureAddr, hj, rSize hz, addr_add, Nat.add_assoc]

theorem val_idxSl (c : Cx P N w0 μ H T n tm a w) {t e : TypeId} {x i : Operand} {len m : Nat} {ax ai : AOpr} {id off : Nat} {k : IntKind} {j : Int}
    (ho : o.op = .indexAddr t x i) (ht : P.underlying t = some (.slice e)) (hz : szOf P e = some m)
    (h1 : cOpr P x = some ax) (h2 : cOpr P i = some ai) (hx : aev H tm ax = some (.slice (some ⟨id, off, none⟩) len m)) (hi : aev H tm ai = some (.int k j))
    (hj : 0 ≤ j ∧ j < len) : ValOk P μ o a w (.pointer (some ⟨id, off + j.toNat * m, none⟩)) := by
  have hr := c.aev h1 hx
  have hi' := (c.aev h2 hi).int_inv
  generalize he : a.eval x = ex at hr
  cases hr with
  | slice _ _ _ cap _ loc hl hc hroom =>
    refine ⟨.pointer (some ⟨loc.b, loc.o + (off + j.toNat * m), none⟩), ?_, .ptr _ _ loc hl⟩
    simp [execOp, ho, Instr.indexAt, rUnder ht, he, hi', asIntOf, hj, rSize hz, addr_add, Nat.add_assoc]
  | slice0 => omega

theorem val_idxStr (c : Cx P N w0 μ H T n tm a w) {t : TypeId} {x i : Operand} {ax ai : AOpr} {s : ByteArray} {k : IntKind} {j : Int} {b : UInt8}
    (ho : o.op = .index t x i) (ht : P.underlying t = some .string)
    (h1 : cOpr P x = some ax) (h2 : cOpr P i = some ai) (hx : aev H tm ax = some (.string s)) (hi : aev H tm ai = some (.int k j))
    (hj : 0 ≤ j) (hb : (bl s)[j.toNat]? = some b) : ValOk P μ o a w (ub b) := by
  have he := (c.aev h1 hx).string_inv
  have hi' := (c.aev h2 hi).int_inv
  have hb' : s[j.toNat]? = some b := by
    have hlt : j.toNat < s.size := by
      have := (List.getElem?_eq_some_iff.1 hb).1
      rw [bl, Array.length_toList] at this
      exact this
    rw [getElem?_pos s j.toNat hlt]
    have := (List.getElem?_eq_some_iff.1 hb).2
    rw [← this]
    rfl
  refine ⟨ub b, ?_, .int _ _⟩
  simp [execOp, ho, Instr.index, rUnder ht, he, hi', asIntOf, hj, hb', ub]

theorem val_idxAgg (c : Cx P N w0 μ H T n tm a w) {t e : TypeId} {x i : Operand} {ax ai : AOpr} {len m : Nat} {d : TypeDesc} {cs : Array Value} {k : IntKind} {j : Int} {v : Value}
    (ho : o.op = .index t x i) (ht : P.underlying t = some (.array len e)) (hz : szOf P e = some m) (hd : P.underlying e = some d)
    (h1 : cOpr P x = some ax) (h2 : cOpr P i = some ai) (hx : aev H tm ax = some (.agg cs)) (hi : aev H tm ai = some (.int k j))
    (hj : 0 ≤ j ∧ j < len)
    (hv : if isAggD (some d) then v = .agg ((cs.toList.drop (j.toNat * m)).take m).toArray else cs.toList[j.toNat * m]? = some v) : ValOk P μ o a w v := by
  obtain ⟨cs', he, hr⟩ := (c.aev h1 hx).agg_inv
  have hi' := (c.aev h2 hi).int_inv
  obtain ⟨v', h3, h4⟩ := run_part (P := P) (w := w) hd hz hr hv
  exact ⟨v', by simp [execOp, ho, Instr.index, rUnder ht, he, hi', asIntOf, hj, rSize hz, h3], h4⟩

end
end Go.Ab
