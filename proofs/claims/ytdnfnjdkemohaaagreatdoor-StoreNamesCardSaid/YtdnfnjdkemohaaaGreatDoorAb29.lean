/- The evaluator is sound: first the relation of states. -/
import Derived.Test.YtdnfnjdkemohaaaGreatDoorAb28
namespace Go.Ab

mutual
theorem wf_mono {c c' : Nat} (h : c ≤ c') : ∀ v, wf c v = true → wf c' v = true
  | .pointer (some a), w => by simp only [wf, decide_eq_true_eq] at w ⊢; omega
  | .slice (some a) n e, w => by simp only [wf, decide_eq_true_eq] at w ⊢; omega
  | .map (some i), w => by simp only [wf, decide_eq_true_eq] at w ⊢; omega
  | .func f a b, w => by simp only [wf, Bool.and_eq_true] at w ⊢; exact ⟨wfA_mono h a w.1, wfA_mono h b w.2⟩
  | .iface t v, w => by simp only [wf] at w ⊢; exact wf_mono h v w
  | .agg cs, w => by simp only [wf] at w ⊢; exact wfA_mono h cs w
  | .tuple cs, w => by simp only [wf] at w ⊢; exact wfA_mono h cs w
  | .bool _, _ => rfl
  | .int _ _, _ => rfl
  | .float _ _, _ => rfl
  | .complex _ _ _, _ => rfl
  | .string _, _ => rfl
  | .pointer none, _ => rfl
  | .slice none _ _, _ => rfl
  | .map none, _ => rfl
  | .chan _, _ => rfl
  | .nilFunc, _ => rfl
  | .nilIface, _ => rfl
theorem wfA_mono {c c' : Nat} (h : c ≤ c') : ∀ a, wfA c a = true → wfA c' a = true
  | ⟨l⟩, w => by simp only [wfA] at w ⊢; exact wfL_mono h l w
theorem wfL_mono {c c' : Nat} (h : c ≤ c') : ∀ l, wfL c l = true → wfL c' l = true
  | [], _ => rfl
  | v :: l, w => by simp only [wfL, Bool.and_eq_true] at w ⊢; exact ⟨wf_mono h v w.1, wfL_mono h l w.2⟩
end

theorem wfOb_mono {c c' : Nat} (h : c ≤ c') {o : Ob} (w : wfOb c o = true) : wfOb c' o = true := by
  cases o with
  | cells ro l => exact wfL_mono h l w
  | map es k =>
    simp only [wfOb, List.all_eq_true, Bool.and_eq_true] at w ⊢
    exact fun e he => ⟨wf_mono h _ (w e he).1, wf_mono h _ (w e he).2⟩
  | bld T p s => simp only [wfOb, Bool.and_eq_true] at w ⊢; exact ⟨wf_mono h p w.1, wf_mono h s w.2⟩

mutual
theorem beqV_sound : ∀ a b, beqV a b = true → a = b
  | .bool a, u, h => by cases u <;> simp [beqV] at h ⊢; exact h
  | .int k n, u, h => by cases u <;> simp [beqV] at h ⊢; exact h
  | .string ⟨⟨a⟩⟩, u, h => by
    cases u with
    | string b => obtain ⟨⟨b⟩⟩ := b; simp only [beqV, beq_iff_eq] at h; rw [h]
    | _ => simp [beqV] at h
  | .pointer none, u, h => by
    cases u with
    | pointer b => cases b with
      | none => rfl
      | some b => simp [beqV] at h
    | _ => simp [beqV] at h
  | .pointer (some ⟨b, o, none⟩), u, h => by
    cases u with
    | pointer b => cases b with
      | none => simp [beqV] at h
      | some b => obtain ⟨b', o', s'⟩ := b; cases s' <;> simp [beqV] at h ⊢; exact h
    | _ => simp [beqV] at h
  | .pointer (some ⟨b, o, some s⟩), u, h => by cases u <;> simp [beqV] at h
  | .slice none n e, u, h => by
    cases u with
    | slice b _ _ => cases b with
      | none => simp [beqV] at h ⊢; exact h
      | some b => simp [beqV] at h
    | _ => simp [beqV] at h
  | .slice (some ⟨b, o, none⟩) n e, u, h => by
    cases u with
    | slice b _ _ => cases b with
      | none => simp [beqV] at h
      | some b => obtain ⟨b', o', s'⟩ := b; cases s' <;> simp [beqV] at h ⊢; exact ⟨⟨h.1.1.1, h.1.1.2⟩, h.1.2, h.2⟩
    | _ => simp [beqV] at h
  | .slice (some ⟨b, o, some s⟩) n e, u, h => by cases u <;> simp [beqV] at h
  | .map none, u, h => by
    cases u with
    | map b => cases b with
      | none => rfl
      | some b => simp [beqV] at h
    | _ => simp [beqV] at h
  | .map (some i), u, h => by
    cases u with
    | map b => cases b with
      | none => simp [beqV] at h
      | some b => simp [beqV] at h ⊢; exact h
    | _ => simp [beqV] at h
  | .nilFunc, u, h => by cases u <;> simp [beqV] at h ⊢
  | .nilIface, u, h => by cases u <;> simp [beqV] at h ⊢
  | .agg a, u, h => by
    cases u with
    | agg b => simp only [beqV] at h; rw [beqA_sound a b h]
    | _ => simp [beqV] at h
  | .tuple a, u, h => by
    cases u with
    | tuple b => simp only [beqV] at h; rw [beqA_sound a b h]
    | _ => simp [beqV] at h
  | .float _ _, u, h => by cases u <;> simp [beqV] at h
  | .complex _ _ _, u, h => by cases u <;> simp [beqV] at h
  | .chan _, u, h => by cases u <;> simp [beqV] at h
  | .func _ _ _, u, h => by cases u <;> simp [beqV] at h
  | .iface _ _, u, h => by cases u <;> simp [beqV] at h
theorem beqA_sound : ∀ a b, beqA a b = true → a = b
  | ⟨l⟩, ⟨m⟩, h => by simp only [beqA] at h; rw [beqL_sound l m h]
theorem beqL_sound : ∀ a b, beqL a b = true → a = b
  | [], [], _ => rfl
  | v :: l, u :: m, h => by simp only [beqL, Bool.and_eq_true] at h; rw [beqV_sound v u h.1, beqL_sound l m h.2]
  | [], _ :: _, h => by simp [beqL] at h
  | _ :: _, [], h => by simp [beqL] at h
end

end Go.Ab
