/- Plain facts on digits and words, for every input. -/
import Derived.Test.YtdkfebfedfemaaaGreatDoorM7
set_option linter.unusedVariables false
set_option linter.unusedSimpArgs false
namespace Go.Mlab
open Go.Lib

/-! Lowest terms. -/
/-- The common divisor by which both are divided: of the denominator's sign. -/
def gsign (num den : Int) : Int := if den < 0 then -((Nat.gcd num.natAbs den.natAbs : Nat) : Int) else ((Nat.gcd num.natAbs den.natAbs : Nat) : Int)
theorem gcd_pos {num den : Int} (hd : den ≠ 0) : 0 < Nat.gcd num.natAbs den.natAbs := Nat.gcd_pos_of_pos_right _ (by omega)
theorem gsign_ne {num den : Int} (hd : den ≠ 0) : gsign num den ≠ 0 := by
  have := gcd_pos (num := num) hd
  unfold gsign; split <;> omega
theorem low_num {num den : Int} (hd : den ≠ 0) : num.fdiv (gsign num den) = (Rat.divInt num den).num := by
  rw [Rat.num_divInt]
  have hg := gcd_pos (num := num) hd
  have e : den.gcd num = Nat.gcd num.natAbs den.natAbs := by unfold Int.gcd; rw [Nat.gcd_comm]
  rw [e]
  have hdvd : ((Nat.gcd num.natAbs den.natAbs : Nat) : Int) ∣ num := by
    have := Nat.gcd_dvd_left num.natAbs den.natAbs
    exact Int.dvd_natAbs.1 (Int.ofNat_dvd.2 this)
  obtain ⟨k, hk⟩ := hdvd
  have hne := gsign_ne (num := num) hd
  unfold gsign at *
  generalize Nat.gcd num.natAbs den.natAbs = g at *
  by_cases h : den < 0
  · rw [if_pos h] at hne ⊢
    rw [Int.sign_eq_neg_one_of_neg h, fdiv_exact hne (k := -k) (by rw [hk, Int.neg_mul_neg, Int.mul_comm]), hk]
    rw [show (-1 : Int) * (g * k) = (-k) * g by rw [Int.neg_mul, Int.one_mul, Int.neg_mul, Int.mul_comm], Int.mul_ediv_cancel _ (by omega)]
  · rw [if_neg h] at hne ⊢
    rw [Int.sign_eq_one_of_pos (by omega), fdiv_exact hne (k := k) (by rw [hk, Int.mul_comm]), Int.one_mul, hk]
    rw [Int.mul_comm, Int.mul_ediv_cancel _ (by omega)]
theorem low_den {num den : Int} (hd : den ≠ 0) : den.fdiv (gsign num den) = ((Rat.divInt num den).den : Int) := by
  rw [Rat.den_divInt, if_neg hd]
  have hg := gcd_pos (num := num) hd
  have e : den.gcd num = Nat.gcd num.natAbs den.natAbs := by unfold Int.gcd; rw [Nat.gcd_comm]
  rw [e]
  have hdvd : Nat.gcd num.natAbs den.natAbs ∣ den.natAbs := Nat.gcd_dvd_right _ _
  obtain ⟨k, hk⟩ := hdvd
  have hne := gsign_ne (num := num) hd
  unfold gsign at *
  generalize Nat.gcd num.natAbs den.natAbs = g at *
  rw [hk, Nat.mul_div_cancel_left _ hg]
  have hk2 : (den.natAbs : Int) = g * k := by rw [hk]; exact Int.natCast_mul _ _
  by_cases h : den < 0
  · rw [if_pos h] at hne ⊢
    exact fdiv_exact hne (by rw [Int.mul_neg, Int.mul_comm]; omega)
  · rw [if_neg h] at hne ⊢
    exact fdiv_exact hne (by rw [Int.mul_comm]; omega)
theorem fitsR_divInt {num den : Int} (hd : den ≠ 0) (h1 : fits num = true) (h2 : fits den = true) : fitsR (Rat.divInt num den) = true := by
  have hn := gsign_ne (num := num) hd
  rw [fitsR_iff, ← low_num hd, ← low_den hd]
  unfold fits at *
  rw [decide_eq_true_iff] at *
  rw [decide_eq_true_iff]
  have a := fdiv_abs num (gsign num den) hn
  have b := fdiv_abs den (gsign num den) hn
  exact ⟨by omega, by omega⟩
theorem fits_gcd {num den : Int} (hd : den ≠ 0) (h2 : fits den = true) : fits ((Nat.gcd num.natAbs den.natAbs : Nat) : Int) = true := by
  unfold fits at *
  rw [decide_eq_true_iff] at *
  have := Nat.le_of_dvd (by omega) (Nat.gcd_dvd_right num.natAbs den.natAbs)
  rw [Int.natAbs_natCast]; omega
theorem fits_gsign {num den : Int} (hd : den ≠ 0) (h2 : fits den = true) : fits (gsign num den) = true := by
  have := fits_gcd (num := num) hd h2
  unfold gsign
  split
  · unfold fits at *; rw [Int.natAbs_neg]; exact this
  · exact this
end Go.Mlab
set_option linter.unusedVariables false
set_option linter.unusedSimpArgs false
namespace Go.Mlab
open Go.Lib

/-! How large rational numbers become. -/
def sizeR (k : Nat) (r : Rat) : Prop := r.num.natAbs < 10 ^ k ∧ r.den < 10 ^ k
theorem fits_pow {z : Int} {k : Nat} (h : z.natAbs < 10 ^ k) (hk : k ≤ 1024) : fits z = true := by
  unfold fits
  exact decide_eq_true (Nat.lt_of_lt_of_le h (pow_le_LIM hk))
theorem sizeR_fits {k : Nat} {r : Rat} (h : sizeR k r) (hk : k ≤ 1024) : fitsR r = true :=
  fitsR_iff.2 ⟨fits_pow h.1 hk, fits_pow (by rw [Int.natAbs_natCast]; exact h.2) hk⟩
theorem divInt_le {a b : Int} (hb : b ≠ 0) : (Rat.divInt a b).num.natAbs ≤ a.natAbs ∧ (Rat.divInt a b).den ≤ b.natAbs := by
  have hn := gsign_ne (num := a) hb
  have h1 := fdiv_abs a (gsign a b) hn
  have h2 := fdiv_abs b (gsign a b) hn
  rw [low_num hb] at h1
  rw [low_den hb, Int.natAbs_natCast] at h2
  exact ⟨h1, h2⟩
theorem sizeR_divInt {a b : Int} {k : Nat} (hb : b ≠ 0) (h1 : a.natAbs < 10 ^ k) (h2 : b.natAbs < 10 ^ k) : sizeR k (Rat.divInt a b) := by
  have := divInt_le (a := a) hb
  exact ⟨Nat.lt_of_le_of_lt this.1 h1, Nat.lt_of_le_of_lt this.2 h2⟩
theorem mul_pow_lt {a b j k : Nat} (h1 : a < 10 ^ j) (h2 : b < 10 ^ k) : a * b < 10 ^ (j + k) := by
  rw [Nat.pow_add]; exact Nat.mul_lt_mul'' h1 h2
theorem natAbs_mul_lt {a b : Int} {j k : Nat} (h1 : a.natAbs < 10 ^ j) (h2 : b.natAbs < 10 ^ k) : (a * b).natAbs < 10 ^ (j + k) := by
  rw [Int.natAbs_mul]; exact mul_pow_lt h1 h2
theorem rat_mul_divInt (r s : Rat) : Rat.divInt (r.num * s.num) ((r.den : Int) * (s.den : Int)) = r * s := by
  rw [← Rat.divInt_mul_divInt, Rat.num_divInt_den, Rat.num_divInt_den]
theorem rat_div_divInt (r s : Rat) : Rat.divInt (r.num * (s.den : Int)) ((r.den : Int) * s.num) = r / s := by
  rw [Rat.div_def, ← Rat.divInt_mul_divInt, Rat.num_divInt_den]
  congr 1
  conv => rhs; rw [← Rat.num_divInt_den s]
  rw [Rat.inv_divInt]
theorem den_ne' (r : Rat) : (r.den : Int) ≠ 0 := by have := r.den_nz; omega
theorem sizeR_mul {r s : Rat} {j k : Nat} (h1 : sizeR j r) (h2 : sizeR k s) : sizeR (j + k) (r * s) := by
  rw [← rat_mul_divInt]
  exact sizeR_divInt (Int.mul_ne_zero (den_ne' r) (den_ne' s)) (natAbs_mul_lt h1.1 h2.1) (natAbs_mul_lt (by rw [Int.natAbs_natCast]; exact h1.2) (by rw [Int.natAbs_natCast]; exact h2.2))
theorem sizeR_int {n : Int} {k : Nat} (h : n.natAbs < 10 ^ k) (hk : 0 < k) : sizeR k (n : Rat) :=
  ⟨h, Nat.one_lt_pow (by omega) (by decide)⟩
theorem sizeR_mono {j k : Nat} {r : Rat} (h : sizeR j r) (hk : j ≤ k) : sizeR k r :=
  ⟨Nat.lt_of_lt_of_le h.1 (Nat.pow_le_pow_right (by decide) hk), Nat.lt_of_lt_of_le h.2 (Nat.pow_le_pow_right (by decide) hk)⟩
end Go.Mlab
