/- The plain law of CapabilityCenters. -/
import Derived.Test.YtdkfebfedfemaaaGreatDoorG0
set_option linter.unusedVariables false
set_option linter.unusedSimpArgs false
namespace Go.Proofs.YtdkfebfedfemaaaGreatDoor
open Go.RowKit Go.Mlab

theorem cmp_scale {x y k : Int} (hk : 0 < k) : Lib.compareInt (k * x) (k * y) = Lib.compareInt x y := by
  have h1 : k * x < k * y ↔ x < y := ⟨fun h => Int.lt_of_mul_lt_mul_left h (by omega), fun h => Int.mul_lt_mul_of_pos_left h hk⟩
  have h2 : k * y < k * x ↔ y < x := ⟨fun h => Int.lt_of_mul_lt_mul_left h (by omega), fun h => Int.mul_lt_mul_of_pos_left h hk⟩
  unfold Lib.compareInt
  by_cases a : x < y
  · rw [if_pos a, if_pos (h1.2 a)]
  · rw [if_neg a, if_neg (fun h => a (h1.1 h))]
    by_cases b : y < x
    · rw [if_pos b, if_pos (h2.2 b)]
    · rw [if_neg b, if_neg (fun h => b (h2.1 h))]
theorem num_cross {a b : Int} (hb : 0 < b) : (Rat.divInt a b).num * b = a * ((Rat.divInt a b).den : Int) := by
  have h : Rat.divInt (Rat.divInt a b).num ((Rat.divInt a b).den : Int) = Rat.divInt a b := Rat.num_divInt_den _
  rwa [Rat.divInt_eq_divInt_iff (by have := (Rat.divInt a b).den_nz; omega) (by omega)] at h
theorem cmp_divInt {a b c d : Int} (hb : 0 < b) (hd : 0 < d) : cmpQ (Rat.divInt a b) (Rat.divInt c d) = Lib.compareInt (a * d) (c * b) := by
  have h1 := num_cross (a := a) hb
  have h2 := num_cross (a := c) hd
  have p1 := (Rat.divInt a b).den_nz
  have p2 := (Rat.divInt c d).den_nz
  unfold cmpQ
  generalize (Rat.divInt a b).num = rn at *
  generalize (Rat.divInt c d).num = sn at *
  generalize (Rat.divInt a b).den = rd at *
  generalize (Rat.divInt c d).den = sd at *
  have k1 : 0 < (rd : Int) * sd := Int.mul_pos (by omega) (by omega)
  have k2 : 0 < b * d := Int.mul_pos hb hd
  rw [← cmp_scale (x := rn * sd) (y := sn * rd) k2, ← cmp_scale (x := a * d) (y := c * b) k1]
  have e1 : b * d * (rn * sd) = (rd : Int) * sd * (a * d) := by
    calc b * d * (rn * sd) = (rn * b) * (d * sd) := by ac_rfl
      _ = (a * rd) * (d * sd) := by rw [h1]
      _ = _ := by ac_rfl
  have e2 : b * d * (sn * rd) = (rd : Int) * sd * (c * b) := by
    calc b * d * (sn * rd) = (sn * d) * (b * rd) := by ac_rfl
      _ = (c * sd) * (b * rd) := by rw [h2]
      _ = _ := by ac_rfl
  rw [e1, e2]
theorem int_divInt (n : Int) : (n : Rat) = Rat.divInt n 1 := by
  have := Rat.num_divInt_den (n : Rat)
  exact this.symm
theorem div_divInt {a b c d : Int} : Rat.divInt a b / Rat.divInt c d = Rat.divInt (a * d) (b * c) := by
  rw [Rat.div_def, Rat.inv_divInt, Rat.divInt_mul_divInt]
def vden (xs : List Int) : Int := (xs.length : Int) * ((xs.length : Int) - 1)
theorem capb_divInt (xs : List Int) (lo hi : Int) : capb xs lo hi = Rat.divInt ((hi - lo) * (hi - lo) * vden xs) (36 * vnum xs) := by
  unfold capb vari vden
  rw [int_divInt (hi - lo), int_divInt 36, Rat.divInt_mul_divInt, Rat.divInt_mul_divInt, div_divInt, Int.one_mul, Int.one_mul, Int.one_mul]
theorem cenb_divInt (xs : List Int) (lo hi : Int) : cenb xs lo hi = Rat.divInt (dist xs lo hi * dist xs lo hi * vden xs) ((xs.length : Int) * xs.length * (9 * vnum xs)) := by
  unfold cenb vari vden
  rw [int_divInt 9, Rat.divInt_mul_divInt, Rat.divInt_mul_divInt, div_divInt, Int.one_mul]
theorem cmp_sq {x y : Int} (hx : 0 ≤ x) (hy : 0 ≤ y) : Lib.compareInt (x * x) (y * y) = Lib.compareInt x y := by
  unfold Lib.compareInt
  rcases Int.lt_trichotomy x y with h | h | h
  · have : x * x < y * y := by
      have h1 : x * x ≤ x * y := Int.mul_le_mul_of_nonneg_left (by omega) hx
      have h2 : x * y < y * y := Int.mul_lt_mul_of_pos_right h (by omega)
      omega
    rw [if_pos this, if_pos h]
  · subst h; simp
  · have : y * y < x * x := by
      have h1 : y * y ≤ y * x := Int.mul_le_mul_of_nonneg_left (by omega) hy
      have h2 : y * x < x * x := Int.mul_lt_mul_of_pos_right h (by omega)
      omega
    rw [if_neg (by omega), if_pos this, if_neg (by omega), if_pos h]
theorem vnum_pos {xs : List Int} (h : 2 ≤ xs.length) (h0 : wid xs ≠ 0) : 0 < vnum xs := by
  have h1 := vnum_nonneg xs
  have h2 : vnum xs ≠ 0 := by
    intro e
    rw [vnum_zero, ← wid_zero (by intro q; rw [q] at h; simp at h)] at e
    exact h0 e
  omega
theorem vden_pos {xs : List Int} (h : 2 ≤ xs.length) : 0 < vden xs := Int.mul_pos (by omega) (by omega)
theorem low_cmp {xs : List Int} (h : 0 < xs.length) (z : Int) : cmpQ (avg xs) (z : Rat) = Lib.compareInt (isum xs) ((xs.length : Int) * z) := by
  unfold avg
  rw [int_divInt z, cmp_divInt (by omega) (by decide), Int.mul_one, Int.mul_comm z]
theorem mid_cmp {xs : List Int} (h : 0 < xs.length) (z : Int) : cmpQ (avg xs) (Rat.divInt z 2) = Lib.compareInt (2 * isum xs) ((xs.length : Int) * z) := by
  unfold avg
  rw [cmp_divInt (by omega) (by decide), Int.mul_comm (isum xs), Int.mul_comm z]
theorem cen_cmp {xs : List Int} {lo hi : Int} (h : 2 ≤ xs.length) (h0 : wid xs ≠ 0) (hlh : lo ≤ hi) (hd : 0 ≤ dist xs lo hi) :
    cmpQ (cenb xs lo hi) (capb xs lo hi) = Lib.compareInt (2 * dist xs lo hi) ((xs.length : Int) * (hi - lo)) := by
  have hv := vnum_pos h h0
  have hn := vden_pos h
  have hl : 0 < (xs.length : Int) := by omega
  have hnn : 0 < (xs.length : Int) * xs.length := Int.mul_pos hl hl
  rw [cenb_divInt, capb_divInt, cmp_divInt (Int.mul_pos hnn (by omega)) (by omega)]
  have h2 : 0 ≤ (xs.length : Int) * (hi - lo) := Int.mul_nonneg (by omega) (by omega)
  have h3 : 0 ≤ 2 * dist xs lo hi := by omega
  rw [← cmp_sq h3 h2, ← cmp_scale (k := 9 * (vden xs * vnum xs)) (x := 2 * dist xs lo hi * (2 * dist xs lo hi)) (by have := Int.mul_pos hn hv; omega)]
  generalize dist xs lo hi = t
  generalize (xs.length : Int) = l
  generalize vden xs = N
  generalize vnum xs = V
  generalize hi - lo = s
  congr 1
  · have e : (36 : Int) = 9 * 2 * 2 := by decide
    rw [e]; ac_rfl
  · ac_rfl
theorem cmp_pos {x y : Int} : (0 < Lib.compareInt x y ↔ y < x) ∧ (Lib.compareInt x y < 0 ↔ x < y) ∧ (Lib.compareInt x y = 0 ↔ x = y) := by
  unfold Lib.compareInt
  rcases Int.lt_trichotomy x y with h | h | h
  · rw [if_pos h]; omega
  · subst h; rw [if_neg (by omega), if_neg (by omega)]; omega
  · rw [if_neg (by omega), if_pos h]; omega
/-- What the law asks of the numbers. -/
structure CenOk (s low high mid n : Int) : Prop where
  up : decide (0 < s) = (decide (0 < low) && decide (high < 0))
  down : decide (s < 0) = (decide (low < 0) || decide (0 < high))
  last : s < 0 ∨ (n ≤ 0 ∧ (n = 0 ↔ mid = 0))
  bds : -1 ≤ s ∧ s ≤ 1
theorem cmp_bd (x y : Int) : -1 ≤ Lib.compareInt x y ∧ Lib.compareInt x y ≤ 1 := by
  unfold Lib.compareInt
  split
  · omega
  · split <;> omega
theorem cen_ok {xs : List Int} {lo hi : Int} (h : 2 ≤ xs.length) (h0 : wid xs ≠ 0) (hlh : lo ≤ hi) :
    CenOk (Lib.compareInt (dist xs lo hi) 0) (cmpQ (avg xs) (lo : Rat)) (cmpQ (avg xs) (hi : Rat)) (cmpQ (avg xs) (Rat.divInt (lo + hi) 2)) (cmpQ (cenb xs lo hi) (capb xs lo hi)) := by
  rw [low_cmp (by omega), low_cmp (by omega), mid_cmp (by omega)]
  have hc := fun hd => cen_cmp (xs := xs) (lo := lo) (hi := hi) h h0 hlh hd
  have c1 := cmp_pos (x := dist xs lo hi) (y := 0)
  have c2 := cmp_pos (x := isum xs) (y := (xs.length : Int) * lo)
  have c3 := cmp_pos (x := isum xs) (y := (xs.length : Int) * hi)
  have c4 := cmp_pos (x := 2 * isum xs) (y := (xs.length : Int) * (lo + hi))
  have c5 := cmp_pos (x := 2 * dist xs lo hi) (y := (xs.length : Int) * (hi - lo))
  have e1 : (xs.length : Int) * (lo + hi) = (xs.length : Int) * lo + (xs.length : Int) * hi := Int.mul_add _ _ _
  have e2 : (xs.length : Int) * (hi - lo) = (xs.length : Int) * hi - (xs.length : Int) * lo := Int.mul_sub _ _ _
  have e3 : dist xs lo hi = min ((xs.length : Int) * hi - isum xs) (isum xs - (xs.length : Int) * lo) := rfl
  have e4 : (xs.length : Int) * lo ≤ (xs.length : Int) * hi := Int.mul_le_mul_of_nonneg_left hlh (by omega)
  rw [e1] at c4 ⊢
  rw [e2] at c5 hc
  have b1 := cmp_bd (dist xs lo hi) 0
  generalize (xs.length : Int) * lo = p at *
  generalize (xs.length : Int) * hi = q at *
  generalize dist xs lo hi = t at *
  generalize isum xs = s at *
  generalize Lib.compareInt t 0 = a1 at *
  generalize Lib.compareInt s p = a2 at *
  generalize Lib.compareInt s q = a3 at *
  generalize Lib.compareInt (2 * s) (p + q) = a4 at *
  generalize Lib.compareInt (2 * t) (q - p) = a5 at *
  generalize cmpQ (cenb xs lo hi) (capb xs lo hi) = a6 at *
  refine ⟨?_, ?_, ?_, b1⟩
  · rw [Bool.eq_iff_iff, Bool.and_eq_true, decide_eq_true_iff, decide_eq_true_iff, decide_eq_true_iff]
    omega
  · rw [Bool.eq_iff_iff, Bool.or_eq_true, decide_eq_true_iff, decide_eq_true_iff, decide_eq_true_iff]
    omega
  · by_cases ht : t < 0
    · left; omega
    · right
      have := hc (by omega)
      omega
end Go.Proofs.YtdkfebfedfemaaaGreatDoor
