/- The plain law of a file's name: sixteen digits of a number; they stand as the numbers do. -/
import Derived.Test.YtdnfnjdkemohaaaGreatDoorAb33
namespace Go.Ab.Nm

/-- k digits of a number, the highest first. -/
def digs : Nat → Nat → List UInt8
  | 0, _ => []
  | k + 1, n => UInt8.ofNat (48 + n / 10 ^ k % 10) :: digs k n

theorem digs_length (k n : Nat) : (digs k n).length = k := by
  induction k with
  | zero => rfl
  | succ k ih => simp [digs, ih]

theorem digs_zeros (j n : Nat) (h : n / 10 ^ j = 0) : ∀ d, digs (j + d) n = List.replicate d 48 ++ digs j n := by
  intro d
  induction d with
  | zero => simp
  | succ d ih =>
    have h1 : n / 10 ^ (j + d) = 0 := by rw [Nat.pow_add, ← Nat.div_div_eq_div_mul, h]; simp
    rw [show j + (d + 1) = (j + d) + 1 from rfl]
    simp only [digs, h1, ih, List.replicate_succ]
    rfl

/-- The bytes of a name, of which j digits are told. -/
def part (j n : Nat) : List UInt8 := [115, 101, 103, 45] ++ List.replicate (16 - j) 48 ++ digs j n

theorem part_length (j n : Nat) (h : j ≤ 16) : (part j n).length = 20 := by
  simp [part, digs_length]; omega

theorem part_set (j n : Nat) (h : j < 16) : (part j n).set (19 - j) (UInt8.ofNat (48 + n / 10 ^ j % 10)) = part (j + 1) n := by
  have h1 : List.replicate (16 - j) (48 : UInt8) = List.replicate (16 - (j + 1)) 48 ++ [48] := by
    rw [show 16 - j = (16 - (j + 1)) + 1 from by omega, List.replicate_succ']
  unfold part
  rw [h1]
  rw [List.append_assoc, List.append_assoc, List.append_assoc, List.set_append_right _ _ (by simp; omega)]
  rw [List.set_append_right _ _ (by simp; omega)]
  congr 1
  congr 1
  simp only [List.length_cons, List.length_nil, List.length_replicate]
  rw [show 19 - j - (0 + 1 + 1 + 1 + 1) - (16 - (j + 1)) = 0 from by omega]
  rfl

theorem part_all (j n : Nat) (h : j ≤ 16) (h0 : n / 10 ^ j = 0) : part j n = part 16 n := by
  have := digs_zeros j n h0 (16 - j)
  rw [show j + (16 - j) = 16 from by omega] at this
  simp [part, this]

theorem div_pow_succ (n j : Nat) : n / 10 ^ j / 10 = n / 10 ^ (j + 1) := by
  rw [Nat.div_div_eq_div_mul, Nat.pow_succ]

theorem digit_lt (n j : Nat) : 48 + n / 10 ^ j % 10 < 256 := by have := Nat.mod_lt (n / 10 ^ j) (show 0 < 10 by omega); omega

theorem less_digs (a b : Nat) : ∀ k, Op.bytesLess (digs k a) (digs k b) = decide (a % 10 ^ k < b % 10 ^ k) := by
  intro k
  induction k with
  | zero => simp [digs, Op.bytesLess, Nat.mod_one]
  | succ k ih =>
    simp only [digs, Op.bytesLess, ih]
    have ha := Nat.mod_pow_succ (x := a) (b := 10) (k := k)
    have hb := Nat.mod_pow_succ (x := b) (b := 10) (k := k)
    have la := Nat.mod_lt a (show 0 < 10 ^ k from Nat.pow_pos (by omega))
    have lb := Nat.mod_lt b (show 0 < 10 ^ k from Nat.pow_pos (by omega))
    generalize hx : a / 10 ^ k % 10 = x at *
    generalize hy : b / 10 ^ k % 10 = y at *
    have hx10 : x < 10 := by rw [← hx]; exact Nat.mod_lt _ (by omega)
    have hy10 : y < 10 := by rw [← hy]; exact Nat.mod_lt _ (by omega)
    rw [ha, hb]
    have e1 : (UInt8.ofNat (48 + x) < UInt8.ofNat (48 + y)) ↔ x < y := by
      rw [UInt8.lt_iff_toNat_lt]; simp; omega
    have e2 : (UInt8.ofNat (48 + x) = UInt8.ofNat (48 + y)) ↔ x = y := by
      constructor
      · intro h
        have := congrArg UInt8.toNat h
        simp at this
        omega
      · rintro rfl; rfl
    have e3 : (UInt8.ofNat (48 + x) == UInt8.ofNat (48 + y)) = decide (x = y) := by
      rw [Bool.eq_iff_iff]; simp only [beq_iff_eq, e2, decide_eq_true_eq]
    rw [e3, show decide (UInt8.ofNat (48 + x) < UInt8.ofNat (48 + y)) = decide (x < y) from decide_eq_decide.2 e1]
    rw [Bool.eq_iff_iff]
    simp only [Bool.or_eq_true, Bool.and_eq_true, decide_eq_true_eq]
    generalize 10 ^ k = p at *
    constructor
    · rintro (h | ⟨rfl, h⟩)
      · have : p * (x + 1) ≤ p * y := Nat.mul_le_mul_left _ h
        rw [Nat.mul_succ] at this
        omega
      · omega
    · intro h
      rcases Nat.lt_trichotomy x y with h1 | h1 | h1
      · exact .inl h1
      · subst h1; exact .inr ⟨rfl, by omega⟩
      · have : p * (y + 1) ≤ p * x := Nat.mul_le_mul_left _ h1
        rw [Nat.mul_succ] at this
        omega

/-- The name of an ordinal, as bytes. -/
def name (n : Int) : List UInt8 := if n < 0 ∨ n > 4503599627370496 then [] else part 16 n.toNat

theorem part_less (a b : Nat) (ha : a < 10 ^ 16) (hb : b < 10 ^ 16) : Op.bytesLess (part 16 a) (part 16 b) = decide (a < b) := by
  have h : ∀ l m : List UInt8, Op.bytesLess ([115, 101, 103, 45] ++ l) ([115, 101, 103, 45] ++ m) = Op.bytesLess l m := by
    intro l m
    simp [Op.bytesLess]
  simp only [part, Nat.sub_self, List.replicate_zero, List.append_nil]
  rw [h, less_digs, Nat.mod_eq_of_lt ha, Nat.mod_eq_of_lt hb]

theorem name_less (a b : Int) (ha : name a ≠ []) (hb : name b ≠ []) : Op.bytesLess (name a) (name b) = decide (a < b) := by
  unfold name at *
  split at ha
  · exact absurd rfl ha
  · split at hb
    · exact absurd rfl hb
    · rename_i h1 h2
      rw [if_neg h1, if_neg h2, part_less _ _ (by omega) (by omega)]
      exact decide_eq_decide.2 (by omega)

end Go.Ab.Nm
