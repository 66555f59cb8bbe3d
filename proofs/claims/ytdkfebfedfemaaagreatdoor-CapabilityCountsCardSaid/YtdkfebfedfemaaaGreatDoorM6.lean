import Derived.Test.YtdkfebfedfemaaaGreatDoorM5
set_option linter.unusedVariables false
set_option linter.unusedSimpArgs false
namespace Go.Mlab
open Go.Lib

/-! The quotient, rounded down, and its remainder. -/
theorem fdiv_of_pos {a b q r : Int} (hb : 0 < b) (e : a = q * b + r) (h0 : 0 ≤ r) (h1 : r < b) : a.fdiv b = q := by
  rw [Int.fdiv_eq_ediv_of_nonneg _ (Int.le_of_lt hb), e, Int.mul_comm, Int.mul_add_ediv_left _ _ (by omega), Int.ediv_eq_zero_of_lt h0 h1, Int.add_zero]
theorem fdiv_uniq {a b q r : Int} (hb : b ≠ 0) (e : a = q * b + r) (h : (0 ≤ r ∧ r < b) ∨ (b < r ∧ r ≤ 0)) : q = a.fdiv b ∧ r = a - a.fdiv b * b := by
  have hq : a.fdiv b = q := by
    rcases h with h | h
    · exact fdiv_of_pos (by omega) e h.1 h.2
    · have e1 : (-a).fdiv (-b) = q := fdiv_of_pos (r := -r) (by omega) (by rw [e, Int.mul_neg]; omega) (by omega) (by omega)
      rw [← e1, Int.neg_fdiv_neg]
  rw [hq]
  exact ⟨rfl, by omega⟩
/-- From magnitudes: x = ±u, y = ±v, u = k v + s. -/
theorem parted_same {a b u v k s : Int} {p : Bool} (ha : a = if p then -u else u) (hb : b = if p then -v else v) (hv : 0 < v) (e : u = k * v + s) (h0 : 0 ≤ s) (h1 : s < v) :
    k = a.fdiv b ∧ (if p then -s else s) = a - a.fdiv b * b := by
  cases p with
  | false =>
    simp at ha hb ⊢
    subst ha hb
    exact fdiv_uniq (by omega) e (.inl ⟨h0, h1⟩)
  | true =>
    simp at ha hb ⊢
    subst ha hb
    exact fdiv_uniq (by omega) (by rw [e, Int.mul_neg]; omega) (.inr ⟨by omega, by omega⟩)
theorem parted_zero {a b u v k s : Int} {p : Bool} (ha : a = if p then -u else u) (hb : b = if p then v else -v) (hv : 0 < v) (e : u = k * v + s) (h0 : s = 0) :
    -k = a.fdiv b ∧ 0 = a - a.fdiv b * b := by
  cases p with
  | false =>
    simp at ha hb ⊢
    subst ha hb
    exact fdiv_uniq (by omega) (by rw [e, h0, Int.neg_mul_neg]) (.inr ⟨by omega, by omega⟩)
  | true =>
    simp at ha hb ⊢
    subst ha hb
    exact fdiv_uniq (by omega) (by rw [e, h0, Int.neg_mul]; omega) (.inl ⟨by omega, by omega⟩)
theorem parted_other {a b u v k s : Int} {p : Bool} (ha : a = if p then -u else u) (hb : b = if p then v else -v) (hv : 0 < v) (e : u = k * v + s) (h0 : 0 < s) (h1 : s < v) :
    -k - 1 = a.fdiv b ∧ (if p then -s else s) + b = a - a.fdiv b * b := by
  cases p with
  | false =>
    simp at ha hb ⊢
    subst ha hb
    exact fdiv_uniq (by omega) (by rw [e, Int.sub_mul, Int.neg_mul_neg]; omega) (.inr ⟨by omega, by omega⟩)
  | true =>
    simp at ha hb ⊢
    subst ha hb
    exact fdiv_uniq (by omega) (by rw [e, Int.sub_mul, Int.neg_mul]; omega) (.inl ⟨by omega, by omega⟩)
theorem fdiv_exact {a b k : Int} (hb : b ≠ 0) (e : a = k * b) : a.fdiv b = k := by
  have h := fdiv_uniq (a := a) (q := k) (r := 0) hb (by rw [e]; omega) (by omega)
  exact h.1.symm
theorem fdiv_abs (a b : Int) (hb : b ≠ 0) : (a.fdiv b).natAbs ≤ a.natAbs := by
  have key : ∀ a b : Int, 0 < b → (a.fdiv b).natAbs ≤ a.natAbs := by
    intro a b hb
    rw [Int.fdiv_eq_ediv_of_nonneg _ (Int.le_of_lt hb)]
    rcases Int.lt_or_le a 0 with h | h
    · have h1 : a ≤ a / b := by
        rw [Int.le_ediv_iff_mul_le hb]
        have : a * b ≤ a * 1 := Int.mul_le_mul_of_nonpos_left (by omega) (by omega)
        omega
      have h2 : a / b ≤ 0 := Int.le_of_lt (Int.ediv_neg_of_neg_of_pos h hb)
      omega
    · have h1 := Int.ediv_le_self b h
      have h2 := Int.ediv_nonneg h (Int.le_of_lt hb)
      omega
  rcases Int.lt_or_le b 0 with h | h
  · have := key (-a) (-b) (by omega)
    rw [Int.neg_fdiv_neg, Int.natAbs_neg] at this
    exact this
  · exact key a b (by omega)
/-- The quotient that Go reckons of short numbers, and what is left. -/
theorem tdiv_floor {a b : Int} (hb : b ≠ 0) :
    (a.tmod b ≠ 0 ∧ (decide (a.tmod b < 0) != decide (b < 0)) = true → a.tdiv b - 1 = a.fdiv b ∧ a.tmod b + b = a - a.fdiv b * b) ∧
    (¬ (a.tmod b ≠ 0 ∧ (decide (a.tmod b < 0) != decide (b < 0)) = true) → a.tdiv b = a.fdiv b ∧ a.tmod b = a - a.fdiv b * b) := by
  have e : a = a.tdiv b * b + a.tmod b := (Int.tdiv_mul_add_tmod a b).symm
  have hlt : (a.tmod b).natAbs < b.natAbs := by
    have h1 : (a.tmod b).natAbs = a.natAbs % b.natAbs := Int.natAbs_tmod a b
    rw [h1]; exact Nat.mod_lt _ (by omega)
  generalize a.tdiv b = q at *
  generalize a.tmod b = r at *
  constructor
  · rintro ⟨h1, h2⟩
    refine fdiv_uniq hb (by rw [Int.sub_mul]; omega) ?_
    by_cases g1 : r < 0 <;> by_cases g2 : b < 0
    · simp [g1, g2] at h2
    · left; omega
    · right; omega
    · simp [g1, g2] at h2
  · intro h
    refine fdiv_uniq hb e ?_
    by_cases g0 : r = 0
    · omega
    · have h2 : ¬ (decide (r < 0) != decide (b < 0)) = true := fun q => h ⟨g0, q⟩
      by_cases g1 : r < 0 <;> by_cases g2 : b < 0
      · right; omega
      · simp [g1, g2] at h2
      · simp [g1, g2] at h2
      · left; omega
end Go.Mlab
