import Derived.Test.YtdkfebfedfemaaaGreatDoorM7
set_option linter.unusedVariables false
set_option linter.unusedSimpArgs false
namespace Go.Mlab
open Go.Lib

/-! Lowest terms. -/
/-- The common divisor by which both are divided: of the denominator's sign. -/
def gsign (num den : Int) : Int := if den < 0 then -((Nat.gcd num.natAbs den.natAbs : Nat) : Int) else ((Nat.gcd num.natAbs den.natAbs : Nat) : Int)
theorem gcd_pos {num den : Int} (hd : den ≠ 0) : 0 < Nat.gcd num.natAbs den.natAbs := Nat.gcd_pos_of_pos_right _ (by omega)
theorem gsign_ne {num den : Int} (hd : den ≠ 0) : gsign num den ≠ 0 := by
  have := gcd_pos (num := num) hd
  unfold gsign; split <;> omega
theorem low_num {num den : Int} (hd : den ≠ 0) : num.fdiv (gsign num den) = (Rat.divInt num den).num := by
  rw [Rat.num_divInt]
  have hg := gcd_pos (num := num) hd
  have e : den.gcd num = Nat.gcd num.natAbs den.natAbs := by unfold Int.gcd; rw [Nat.gcd_comm]
  rw [e]
  have hdvd : ((Nat.gcd num.natAbs den.natAbs : Nat) : Int) ∣ num := by
    have := Nat.gcd_dvd_left num.natAbs den.natAbs
    exact Int.dvd_natAbs.1 (Int.ofNat_dvd.2 this)
  obtain ⟨k, hk⟩ := hdvd
  have hne := gsign_ne (num := num) hd
  unfold gsign at *
  generalize Nat.gcd num.natAbs den.natAbs = g at *
  by_cases h : den < 0
  · rw [if_pos h] at hne ⊢
    rw [Int.sign_eq_neg_one_of_neg h, fdiv_exact hne (k := -k) (by rw [hk, Int.neg_mul_neg, Int.mul_comm]), hk]
    rw [show (-1 : Int) * (g * k) = (-k) * g by rw [Int.neg_mul, Int.one_mul, Int.neg_mul, Int.mul_comm], Int.mul_ediv_cancel _ (by omega)]
  · rw [if_neg h] at hne ⊢
    rw [Int.sign_eq_one_of_pos (by omega), fdiv_exact hne (k := k) (by rw [hk, Int.mul_comm]), Int.one_mul, hk]
    rw [Int.mul_comm, Int.mul_ediv_cancel _ (by omega)]
theorem low_den {num den : Int} (hd : den ≠ 0) : den.fdiv (gsign num den) = ((Rat.divInt num den).den : Int) := by
  rw [Rat.den_divInt, if_neg hd]
  have hg := gcd_pos (num := num) hd
  have e : den.gcd num = Nat.gcd num.natAbs den.natAbs := by unfold Int.gcd; rw [Nat.gcd_comm]
  rw [e]
  have hdvd : Nat.gcd num.natAbs den.natAbs ∣ den.natAbs := Nat.gcd_dvd_right _ _
  obtain ⟨k, hk⟩ := hdvd
  have hne := gsign_ne (num := num) hd
  unfold gsign at *
  generalize Nat.gcd num.natAbs den.natAbs = g at *
  rw [hk, Nat.mul_div_cancel_left _ hg]
  have hk2 : (den.natAbs : Int) = g * k := by rw [hk]; exact Int.natCast_mul _ _
  by_cases h : den < 0
  · rw [if_pos h] at hne ⊢
    exact fdiv_exact hne (by rw [Int.mul_neg, Int.mul_comm]; omega)
  · rw [if_neg h] at hne ⊢
    exact fdiv_exact hne (by rw [Int.mul_comm]; omega)
theorem fitsR_divInt {num den : Int} (hd : den ≠ 0) (h1 : fits num = true) (h2 : fits den = true) : fitsR (Rat.divInt num den) = true := by
  have hn := gsign_ne (num := num) hd
  rw [fitsR_iff, ← low_num hd, ← low_den hd]
  unfold fits at *
  rw [decide_eq_true_iff] at *
  rw [decide_eq_true_iff]
  have a := fdiv_abs num (gsign num den) hn
  have b := fdiv_abs den (gsign num den) hn
  exact ⟨by omega, by omega⟩
theorem fits_gcd {num den : Int} (hd : den ≠ 0) (h2 : fits den = true) : fits ((Nat.gcd num.natAbs den.natAbs : Nat) : Int) = true := by
  unfold fits at *
  rw [decide_eq_true_iff] at *
  have := Nat.le_of_dvd (by omega) (Nat.gcd_dvd_right num.natAbs den.natAbs)
  rw [Int.natAbs_natCast]; omega
theorem fits_gsign {num den : Int} (hd : den ≠ 0) (h2 : fits den = true) : fits (gsign num den) = true := by
  have := fits_gcd (num := num) hd h2
  unfold gsign
  split
  · unfold fits at *; rw [Int.natAbs_neg]; exact this
  · exact this
end Go.Mlab
