/- (*Disk).Used, walked over the World: the sum of the files' lengths, in whatever order the map gives them. -/
import Derived.Test.YtdnfnjdkemohaaaGreatDoorProg
import Derived.Tactics
import Derived.Tactics2
import Derived.StillTactics
import Derived.WalkKit
import Derived.LoopTactic
import Derived.LoopN
import Derived.Laws.Pointers
import Derived.Laws.IdiomRangeMap
namespace Go.Proofs.YtdnfnjdkemohaaaGreatDoor.Us
open Go.RowKit (wrap64)

def lenAt (w : World) (v : Value) : Int := match v with
  | .pointer (some a) => (match w.cell? a with
    | some (.slice _ n _) => n
    | _ => 0)
  | _ => 0

def lens (w : World) (es : Array MapEntry) : Array MapEntry := es.map fun e => { e with val := .int .i64 (lenAt w e.val) }

theorem lens_born (w : World) (es : Array MapEntry) : (lens w es).toList.map (·.born) = es.toList.map (·.born) := by
  simp [lens, Function.comp_def]

theorem leftLens (w : World) (es : Array MapEntry) (seen : Array Nat) : (leftOf (lens w es) seen).size = (leftOf es seen).size := by
  unfold leftOf lens
  rw [Array.filter_map]
  simp [Function.comp_def]

theorem tape_choose {P : Program} {q : Question} {w : World} {v : Nat} {w' : World} (h : (choose q).run P w = .ok v w') : w'.tape = w.tape := by
  simp only [choose, Sem.run] at h
  split at h
  · cases h; rfl
  · cases h; rfl

theorem tape_getObj {P : Program} {r : Nat} {w : World} {v : Obj} {w' : World} (h : (getObj r).run P w = .ok v w') : w'.tape = w.tape := by
  simp only [getObj, Sem.run] at h
  split at h <;> first | (cases h; rfl) | cases h

theorem tape_setObj {P : Program} {r : Nat} {o : Obj} {w : World} {v : Unit} {w' : World} (h : (setObj r o).run P w = .ok v w') : w'.tape = w.tape := by
  simp only [setObj, Sem.run] at h
  split at h <;> first | (cases h; rfl) | cases h

def Still {α : Type} (P : Program) (s : Sem α) : Prop := ∀ w v w', s.run P w = .ok v w' → w'.tape = w.tape
theorem Still.bind {α β : Type} {P : Program} {s : Sem α} {f : α → Sem β} (h : Still P s) (k : ∀ a, Still P (f a)) : Still P (s >>= f) := by
  intro w v w' hr
  rw [Sem.run_bind] at hr
  cases e : s.run P w with
  | ok a w1 => rw [e, Result.andThen_ok] at hr; exact (k a w1 v w' hr).trans (h w a w1 e)
  | halt x w1 => rw [e] at hr; cases hr
theorem Still.pure {α : Type} {P : Program} (a : α) : Still P (Pure.pure a : Sem α) := by
  intro w v w' hr
  rw [Sem.run_pure] at hr
  cases hr; rfl
theorem Still.stuck {α : Type} {P : Program} (x : String) : Still P (stuck x : Sem α) := by
  intro w v w' hr
  cases hr
theorem Still.unsupported {α : Type} {P : Program} (x : Unsupported) : Still P (unsupported x : Sem α) := by
  intro w v w' hr
  cases hr

theorem still_next {P : Program} (it : Value) (ty : TypeId) : Still P (Instr.next it false ty) := by
  unfold Instr.next
  split
  · refine Still.bind (fun w v w' h => tape_getObj h) fun o => ?_
    split
    · rename_i h; cases h
    · exact Still.pure _
    · refine Still.bind (fun w v w' h => tape_getObj h) fun o2 => ?_
      split
      · have rest : ∀ (c : Array (Option MapEntry)) (f : MapEntry → Obj) (r : Nat), Still P (choose (Question.mapNext c.size) >>= fun j => match c[j]? with
            | some (some e) => setObj r (f e) >>= fun _ => pure (Value.tuple #[Value.bool true, e.key, e.val])
            | some none => pure (Value.tuple #[Value.bool false])
            | none => stuck "Next: no such candidate") := by
          intro c f r
          refine Still.bind (fun w v w' h => tape_choose h) fun j => ?_
          split
          · exact Still.bind (fun w v w' h => tape_setObj h) fun _ => Still.pure _
          · exact Still.pure _
          · exact Still.stuck _
        dsimp only
        split
        · exact Still.bind (Still.unsupported _) fun _ => rest _ _ _
        · exact rest _ _ _
      · exact Still.stuck _
    · exact Still.stuck _
  · exact Still.stuck _

set_option maxRecDepth 1000000 in
theorem walk (db o bm : Nat) (es : Array MapEntry) (clock : Nat) (w : World) (hb : w.heap[bm]? = some (.map es clock)) (hst : MapKept.Stamped es clock)
    (h2 : w.cell? ⟨db, o + 2, none⟩ = some (.bool false)) (h0 : w.cell? ⟨db, o, none⟩ = some (.map (some bm)))
    (hv : ∀ x ∈ es.toList, ∃ fb fo a n c, x.val = .pointer (some ⟨fb, fo, none⟩) ∧ w.cell? ⟨fb, fo, none⟩ = some (.slice a n c)) :
    Calls Tryz.prog 212 #[.pointer (some ⟨db, o, none⟩)] w fun e w' => e = .returned (.int .i64 (wrap64 (((lens w es).toList.map fun e => valOf e.val).sum))) ∧ ∃ (w1 : World) (seen : Array Nat), (w1.Alike w ∧ w1.tape = w.tape) ∧ w' = w1.alloc (.mapIter (some bm) clock seen clock) := by
  have hrg := run_range_map (P := Tryz.prog) w 190 9 196 bm es clock Tryz.underlying190 hb
  go_enter Tryz.func212, Tryz.ntmps212
  go_wp2
  go_loopw [3] (fun s w' => ∃ (w1 : World) (seen : Array Nat), (w1.Alike w ∧ w1.tape = w.tape) ∧ w' = w1.alloc (.mapIter (some bm) clock seen clock) ∧ s = .int .i64 (wrap64 (seenSum (lens w es).toList seen))) (fun _ w' => (leftOf es (w'.iterSeen w.heap.size)).size)
  case atStart => exact ⟨w, #[], ⟨⟨rfl, rfl, rfl⟩, rfl⟩, rfl, by rw [seenSum_none, IntWalk.wrap64_in 0 (by omega)]⟩
  case round =>
    obtain ⟨w1, seen, ⟨hal, htp⟩, rfl, rfl⟩ := hrel
    have hsz : w1.heap.size = w.heap.size := by rw [hal.1]
    have hb1 : w1.heap[bm]? = some (.map es clock) := by rw [hal.1]; exact hb
    have law := run_next_map (P := Tryz.prog) w1 0 bm clock clock seen es clock hb1 hst.1 (Nat.le_refl _)
    rw [hsz] at law
    rcases law with ⟨h0, hrun⟩ | ⟨e, he, w2, hal2, hrun⟩
    · have hnx : ∀ ty, (Instr.next (.pointer (some ⟨w.heap.size, 0, none⟩)) false ty).run Tryz.prog (w1.alloc (.mapIter (some bm) clock seen clock)) = _ := fun _ => hrun
      go_wp2
      go_ret
      rw [← seenSum_all (lens w es) seen (by rw [leftLens]; exact h0)]
      exact ⟨rfl, w1, seen, ⟨hal, htp⟩, rfl⟩
    · have htp2 : (w2.alloc (.mapIter (some bm) clock (seen.push e.born) clock)).tape = (w1.alloc (.mapIter (some bm) clock seen clock)).tape := still_next _ _ _ _ _ hrun
      simp only [World.tape_alloc] at htp2
      obtain ⟨fb, fo, ad, n, cp, hval, hcell⟩ := hv e (mem_left he).1
      rw [hval] at hrun
      have hnx : ∀ ty, (Instr.next (.pointer (some ⟨w.heap.size, 0, none⟩)) false ty).run Tryz.prog (w1.alloc (.mapIter (some bm) clock seen clock)) = _ := fun _ => hrun
      have hsz2 : w2.heap.size = w.heap.size := by rw [hal2.1, hal.1]
      have hb2 : w2.heap[bm]? = some (.map es clock) := by rw [hal2.1]; exact hb1
      have hen := run_entry_map (P := Tryz.prog) w2 bm clock seen es clock e hb2 (mem_left he).1 hst.2.1
      rw [hsz2, hval] at hen
      have hc2 : (w2.alloc (.mapIter (some bm) clock (seen.push e.born) clock)).cell? ⟨fb, fo, none⟩ = some (.slice ad n cp) := by
        have hlt : fb < w2.heap.size := by
          rw [hsz2]
          rcases Nat.lt_or_ge fb w.heap.size with h | h
          · exact h
          · simp [World.cell?, Array.getElem?_eq_none h] at hcell
        have e1 : (w2.alloc (.mapIter (some bm) clock (seen.push e.born) clock)).heap[fb]? = w.heap[fb]? := by
          rw [heap_alloc_old _ _ hlt, hal2.1, hal.1]
        rw [← hcell]
        simp only [World.cell?, e1]
      go_wp2
      go_roundw
      case rel =>
        refine ⟨w2, seen.push e.born, ⟨⟨hal2.1.trans hal.1, hal2.2.1.trans hal.2.1, hal2.2.2.trans hal.2.2⟩, htp2.trans htp⟩, rfl, ?_⟩
        have hnd : ((lens w es).toList.map (·.born)).Nodup := by rw [lens_born]; exact hst.2.1
        have hmem : ({ e with val := .int .i64 (lenAt w e.val) } : MapEntry) ∈ (lens w es).toList := by
          simp only [lens, Array.toList_map, List.mem_map]
          exact ⟨e, (mem_left he).1, rfl⟩
        have hp := seenSum_push seen { e with val := .int .i64 (lenAt w e.val) } (mem_left he).2 (lens w es).toList hnd hmem
        have hl : lenAt w e.val = n := by rw [hval]; simp [lenAt, hcell]
        simp only [valOf, hl] at hp
        rw [hp]
        have e3 : ∀ x : Int, wrap64 (wrap64 x + n) = wrap64 (x + n) := fun x => by
          unfold wrap64
          omega
        rw [e3]
      case measure =>
        rw [← hsz2, World.iterSeen_alloc, hsz2, ← hsz, World.iterSeen_alloc]
        exact left_shrinks es seen e he
end Go.Proofs.YtdnfnjdkemohaaaGreatDoor.Us
