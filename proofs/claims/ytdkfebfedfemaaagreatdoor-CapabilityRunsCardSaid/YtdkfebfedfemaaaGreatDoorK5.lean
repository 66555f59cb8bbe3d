/- capability: index, Capability, Centered. -/
import Derived.Test.YtdkfebfedfemaaaGreatDoorK4
import Derived.Test.YtdkfebfedfemaaaGreatDoorM9
set_option linter.unusedVariables false
set_option linter.unusedSimpArgs false
namespace Go.Proofs.YtdkfebfedfemaaaGreatDoor
open Go.RowKit Go.Mlab

set_option maxHeartbeats 1000000 in
theorem index_calls (r v : Rat) (f : Int) (w : World) (hr : sizeR 100 r) (hv : sizeR 100 v) (hf : 0 < f ∧ f < 1000) (h0 : v ≠ 0) (hT : Tab w) :
    Calls Tryz.prog 52 #[.string (Q r), .int .i64 f, .string (Q v)] w fun e w' => e = .returned (.tuple #[.string (Q ((r * r) / ((f : Rat) * v))), .int .i64 0]) ∧ Below w.heap.size w w' := by
  have HT := Lib.hid hT
  have hf3 : sizeR 3 (f : Rat) := sizeR_int (by have : (10 : Nat) ^ 3 = 1000 := rfl; omega) (by decide)
  have fr := sizeR_fits hr (by decide)
  have fv := sizeR_fits hv (by decide)
  have ff := sizeR_fits hf3 (by decide)
  have s1 := sizeR_mul hr hr
  have s2 := sizeR_mul hf3 hv
  have n1 : ∀ q : Rat, (q.den : Int).natAbs = q.den := fun q => Int.natAbs_natCast _
  have H1 := Lib.hid (fun w h => rat_mul_calls r r w fr fr (fits_pow (natAbs_mul_lt hr.1 hr.1) (by decide)) (fits_pow (natAbs_mul_lt (by rw [n1]; exact hr.2) (by rw [n1]; exact hr.2)) (by decide)) h)
  have HW := Lib.hid (fun w h => whole_calls f (by omega) (by omega) w h)
  have H2 := Lib.hid (fun w h => rat_mul_calls (f : Rat) v w ff fv (fits_pow (natAbs_mul_lt hf3.1 hv.1) (by decide)) (fits_pow (natAbs_mul_lt (by rw [n1]; exact hf3.2) (by rw [n1]; exact hv.2)) (by decide)) h)
  have hne : (f : Rat) * v ≠ 0 := by
    intro h
    rcases Rat.mul_eq_zero.1 h with h | h
    · have : f = 0 := by exact_mod_cast h
      omega
    · exact h0 h
  have H3 := Lib.hid (fun w h => rat_div_calls (r * r) ((f : Rat) * v) w (sizeR_fits s1 (by decide)) (sizeR_fits s2 (by decide)) hne
    (fits_pow (natAbs_mul_lt s1.1 (by rw [n1]; exact s2.2)) (by decide)) (fits_pow (natAbs_mul_lt (by rw [n1]; exact s1.2) s2.1) (by decide)) h)
  clear hr hv hf3 fr fv ff s1 s2 n1 hne h0 hT
  generalize Q (r * r / ((f : Rat) * v)) = out at *
  generalize Q (r * r) = q at *
  generalize Q ((f : Rat) * v) = by' at *
  generalize Q (f : Rat) = qf at *
  generalize Q r = qr at *
  generalize Q v = qv at *
  go_enter Tryz.func52, Tryz.ntmps52
  go_wp2_with (go_at_call 85; fail)
  refine (H1.out _ HT.out).mono ?_
  rintro e w1 ⟨rfl, hw1⟩
  go_wp2_with (go_at_call 53; refine (HW.out _ (tab_below HT.out hw1)).mono ?_; rintro e w2 ⟨rfl, hw2⟩)
  have hB2 := below_below hw1 hw1.size hw2
  go_wp2_with (go_at_call 85; fail)
  refine (H2.out _ (tab_below HT.out hB2)).mono ?_
  rintro e w3 ⟨rfl, hw3⟩
  have hB3 := below_below hB2 hB2.size hw3
  go_wp2_with (go_at_call 86; refine (H3.out _ (tab_below HT.out hB3)).mono ?_; rintro e w4 ⟨rfl, hw4⟩)
  go_ret2
  exact ⟨rfl, below_below hB3 hB3.size hw4⟩
theorem pow100 {z : Int} (h : z.natAbs < 1000000000000000000000000000000000000000000) : z.natAbs < 10 ^ 100 := Nat.lt_of_lt_of_le h (by decide)
theorem vari_size {xs : List Int} (ht : Tame xs) (h0 : 2 ≤ xs.length) : sizeR 100 (vari xs) := by
  have hl := ht.1
  have q1 := tame_isq ht
  have s1 := tame_isum ht
  have hnn0 : 0 < (xs.length : Int) * ((xs.length : Int) - 1) := Int.mul_pos (by omega) (by omega)
  have hnn : (xs.length : Int) * ((xs.length : Int) - 1) ≤ 4096 * 4096 := by
    have a := Int.mul_le_mul_of_nonneg_right (a := (xs.length : Int)) (b := 4096) (c := (xs.length : Int) - 1) (by omega) (by omega)
    omega
  have b1 : (isum xs).natAbs * (isum xs).natAbs ≤ 17179869184 * 17179869184 := Nat.mul_le_mul (by omega) (by omega)
  have b2 : (isum xs * isum xs).natAbs = (isum xs).natAbs * (isum xs).natAbs := Int.natAbs_mul _ _
  have b3 : xs.length * (isq xs).natAbs ≤ 4096 * (4096 * 17592186044416) := Nat.mul_le_mul (by omega) (by omega)
  have b4 : ((xs.length : Int) * isq xs).natAbs = xs.length * (isq xs).natAbs := by rw [Int.natAbs_mul]; rfl
  unfold vari
  refine sizeR_divInt (by omega) (pow100 ?_) (pow100 (by omega))
  unfold vnum
  omega

theorem vryE_ok {xs : List Int} {lo hi : Int} (h : vryE xs lo hi = 0) : givE xs lo hi = 0 ∧ xs.length ≠ 1 ∧ vari xs ≠ 0 := by
  unfold vryE at h
  by_cases h1 : givE xs lo hi = 0
  · rw [h1, if_neg (by decide)] at h
    by_cases h2 : xs.length = 1
    · rw [if_pos h2] at h; cases h
    · rw [if_neg h2] at h
      by_cases h3 : vari xs = 0
      · rw [if_pos h3] at h; cases h
      · exact ⟨h1, h2, h3⟩
  · rw [if_pos h1] at h; exact absurd h h1
theorem ser_two {xs : List Int} (h : serE xs = 0) (h1 : xs.length ≠ 1) : 2 ≤ xs.length := by
  have h2 : xs.length ≠ 0 := fun q => (serE_ok h).1 (List.length_eq_zero_iff.1 q)
  omega
/-- The squared capability. -/
def capb (xs : List Int) (lo hi : Int) : Rat := (((hi - lo : Int) : Rat) * ((hi - lo : Int) : Rat)) / (((36 : Int) : Rat) * vari xs)
set_option maxHeartbeats 1000000 in
theorem cap_Cap_calls (A : Option Addr) (c : Nat) (xs : List Int) (lo hi : Int) (w : World) (hx : IntsAt w A c xs) (hT : Tab w) :
    Calls Tryz.prog 20 #[.slice A xs.length c, .agg #[.int .i64 lo, .int .i64 hi]] w fun e w' => e = .returned (resV (vryE xs lo hi) (capb xs lo hi)) ∧ Below w.heap.size w w' := by
  have hA : Below w.heap.size w (w.alloc (.cells #[.int .i64 lo, .int .i64 hi] 34)) := (Below.refl _ w).alloc (Nat.le_refl _) _
  have HV := Lib.hid (fun w1 (h : Below w.heap.size w w1) => varied_calls A c xs lo hi w1 (ints_below hx h) (tab_below hT h))
  have hAH := Lib.hid hA
  have HT := Lib.hid hT
  have hok := @vryE_ok xs lo hi
  clear hx hT hA
  unfold resV at *
  have HI := Lib.hid (fun (h : vryE xs lo hi = 0) w1 (ht : Tab w1) => show Calls Tryz.prog 52 #[.string (Q ((hi - lo : Int) : Rat)), .int .i64 36, .string (Q (vari xs))] w1 fun e w' => e = .returned (.tuple #[.string (Q (capb xs lo hi)), .int .i64 0]) ∧ Below w1.heap.size w1 w' by
    have h1 := hok h
    have h2 := givE_ser h1.1
    exact index_calls ((hi - lo : Int) : Rat) (vari xs) 36 w1 (sizeR_int (pow100 (by omega)) (by decide)) (vari_size (tame_of h2.1) (ser_two h2.1 h1.2.1)) (by decide) h1.2.2 ht)
  have hg := fun (h : vryE xs lo hi = 0) => (givE_ser (hok h).1).2
  clear hok
  generalize vryE xs lo hi = ev at *
  generalize xs.length = n at *
  by_cases h0 : ev = 0
  · subst h0
    rw [if_pos rfl] at HV ⊢
    have HI2 := Lib.hid (HI.out rfl)
    have hb := hg rfl
    have hd : 0 ≤ hi - lo ∧ hi - lo ≤ 2097152 := by omega
    have HW := Lib.hid (fun w h => whole_calls (hi - lo) (by omega) (by omega) w h)
    clear HI hg
    generalize Q (capb xs lo hi) = out at *
    generalize Q (vari xs) = qv at *
    generalize Q ((hi - lo : Int) : Rat) = qd at *
    have c1 : (w.alloc (.cells #[.int .i64 lo, .int .i64 hi] 34)).cell? ⟨w.heap.size, 0, none⟩ = some (.int .i64 lo) := by rw [cell_of_row _ _ _ _ _ _ (alloc_new w _)]; rfl
    have c2 : (w.alloc (.cells #[.int .i64 lo, .int .i64 hi] 34)).cell? ⟨w.heap.size, 1, none⟩ = some (.int .i64 hi) := by rw [cell_of_row _ _ _ _ _ _ (alloc_new w _)]; rfl
    have hlt : w.heap.size < (w.alloc (.cells #[.int .i64 lo, .int .i64 hi] 34)).heap.size := by simp
    have HCC := Lib.hid (And.intro c1 (And.intro c2 hlt))
    clear c1 c2 hlt
    go_enter Tryz.func20, Tryz.ntmps20
    go_wp2_with (go_at_call 51; fail)
    refine (HV.out _ hAH.out).mono ?_
    rintro e w1 ⟨rfl, hw1⟩
    have d1 := (hw1.cell (p := ⟨w.heap.size, 0, none⟩) HCC.out.2.2).trans HCC.out.1
    have d2 := (hw1.cell (p := ⟨w.heap.size, 1, none⟩) HCC.out.2.2).trans HCC.out.2.1
    have hB1 := below_below hAH.out hAH.out.size hw1
    go_wp2_with (go_at_call 53; refine (HW.out _ (tab_below HT.out hB1)).mono ?_; rintro e w2 ⟨rfl, hw2⟩)
    have hB2 := below_below hB1 hB1.size hw2
    go_wp2_with (go_at_call 52; refine (HI2.out _ (tab_below HT.out hB2)).mono ?_; rintro e w3 ⟨rfl, hw3⟩)
    go_ret2
    exact ⟨rfl, below_below hB2 hB2.size hw3⟩
  · rw [if_neg h0] at HV ⊢
    have hb : (ev != 0) = true := by simpa using h0
    clear HI hg h0
    go_enter Tryz.func20, Tryz.ntmps20
    go_wp2_with (go_at_call 51; refine (HV.out _ hAH.out).mono ?_; rintro e w1 ⟨rfl, hw1⟩)
    have hB1 := below_below hAH.out hAH.out.size hw1
    go_ret2
    exact ⟨rfl, hB1⟩
/-- The distance to the limits, times the number of values. -/
def dist (xs : List Int) (lo hi : Int) : Int := min ((xs.length : Int) * hi - isum xs) (isum xs - (xs.length : Int) * lo)
def cenb (xs : List Int) (lo hi : Int) : Rat := (Rat.divInt (dist xs lo hi) xs.length * Rat.divInt (dist xs lo hi) xs.length) / (((9 : Int) : Rat) * vari xs)
def cenV (e : Int) (r : Rat) (s : Int) : Value := .tuple #[.string (if e = 0 then Q r else { data := #[] }), .int .i64 (if e = 0 then s else 0), .int .i64 e]
set_option maxHeartbeats 2000000 in
theorem cap_Cen_calls (A : Option Addr) (c : Nat) (xs : List Int) (lo hi : Int) (w : World) (hx : IntsAt w A c xs) (hT : Tab w) :
    Calls Tryz.prog 22 #[.slice A xs.length c, .agg #[.int .i64 lo, .int .i64 hi]] w fun e w' => e = .returned (cenV (vryE xs lo hi) (cenb xs lo hi) (Lib.compareInt (dist xs lo hi) 0)) ∧ Below w.heap.size w w' := by
  have hA : Below w.heap.size w (w.alloc (.cells #[.int .i64 lo, .int .i64 hi] 34)) := (Below.refl _ w).alloc (Nat.le_refl _) _
  have HV := Lib.hid (fun w1 (h : Below w.heap.size w w1) => varied_calls A c xs lo hi w1 (ints_below hx h) (tab_below hT h))
  have HX := Lib.hid hx
  have hAH := Lib.hid hA
  have HT := Lib.hid hT
  have hok := @vryE_ok xs lo hi
  clear hx hT hA
  unfold resV at HV
  unfold cenV
  by_cases h0 : vryE xs lo hi = 0
  · rw [h0, if_pos rfl, if_pos rfl]
    rw [h0, if_pos rfl] at HV
    have h1 := hok h0
    have h2 := givE_ser h1.1
    have htame := tame_of h2.1
    have hlen := ser_two h2.1 h1.2.1
    have hl4 := htame.1
    have hs := tame_isum htame
    have hn1 : ((xs.length : Int) * hi).natAbs ≤ 4096 * 1048576 := by
      rw [Int.natAbs_mul]; exact Nat.mul_le_mul (by omega) (by omega)
    have hn2 : ((xs.length : Int) * lo).natAbs ≤ 4096 * 1048576 := by
      rw [Int.natAbs_mul]; exact Nat.mul_le_mul (by omega) (by omega)
    have hdist : -100000000000 ≤ dist xs lo hi ∧ dist xs lo hi ≤ 100000000000 := by unfold dist; omega
    have HS := Lib.hid (fun w1 (h : Below w.heap.size w w1) => cap_sum_calls A c xs w1 (ints_below HX.out h) htame)
    have HO := Lib.hid (fun w1 h => rat_of_calls (dist xs lo hi) xs.length w1 (by omega) (by omega) (by omega) h)
    have HI := Lib.hid (fun w1 (ht : Tab w1) => show Calls Tryz.prog 52 #[.string (Q (Rat.divInt (dist xs lo hi) xs.length)), .int .i64 9, .string (Q (vari xs))] w1 fun e w' => e = .returned (.tuple #[.string (Q (cenb xs lo hi)), .int .i64 0]) ∧ Below w1.heap.size w1 w' from
      index_calls (Rat.divInt (dist xs lo hi) xs.length) (vari xs) 9 w1 (sizeR_divInt (by omega) (pow100 (by omega)) (pow100 (by omega))) (vari_size htame hlen) (by decide) h1.2.2 ht)
    have HCm := Lib.hid (fun w => cmp_Compare_int (dist xs lo hi) 0 w)
    have hde : min ((xs.length : Int) * hi - isum xs) (isum xs - (xs.length : Int) * lo) = dist xs lo hi := rfl
    clear h0 h1 h2 htame hok
    generalize Q (cenb xs lo hi) = out at *
    generalize Q (vari xs) = qv at *
    generalize Q (Rat.divInt (dist xs lo hi) xs.length) = qd at *
    generalize dist xs lo hi = D at *
    generalize isum xs = s at *
    have HXn := Lib.hid HX.out.big
    generalize xs.length = n at *
    have c1 : (w.alloc (.cells #[.int .i64 lo, .int .i64 hi] 34)).cell? ⟨w.heap.size, 0, none⟩ = some (.int .i64 lo) := by rw [cell_of_row _ _ _ _ _ _ (alloc_new w _)]; rfl
    have c2 : (w.alloc (.cells #[.int .i64 lo, .int .i64 hi] 34)).cell? ⟨w.heap.size, 1, none⟩ = some (.int .i64 hi) := by rw [cell_of_row _ _ _ _ _ _ (alloc_new w _)]; rfl
    have hlt : w.heap.size < (w.alloc (.cells #[.int .i64 lo, .int .i64 hi] 34)).heap.size := by simp
    have HCC := Lib.hid (And.intro c1 (And.intro c2 hlt))
    clear c1 c2 hlt
    go_enter Tryz.func22, Tryz.ntmps22
    go_wp2_with (go_at_call 51; fail)
    refine (HV.out _ hAH.out).mono ?_
    rintro e w1 ⟨rfl, hw1⟩
    have d1 := (hw1.cell (p := ⟨w.heap.size, 0, none⟩) HCC.out.2.2).trans HCC.out.1
    have d2 := (hw1.cell (p := ⟨w.heap.size, 1, none⟩) HCC.out.2.2).trans HCC.out.2.1
    have hB1 := below_below hAH.out hAH.out.size hw1
    go_wp2
    have v1 : IntKind.i64.wrap ((n : Int) * hi) = (n : Int) * hi := Go.IntWalk.i64_in _ ⟨by omega, by omega⟩
    have v2 : IntKind.i64.wrap ((n : Int) * lo) = (n : Int) * lo := Go.IntWalk.i64_in _ ⟨by omega, by omega⟩
    have v3 : IntKind.i64.wrap ((n : Int) * hi - s) = (n : Int) * hi - s := Go.IntWalk.i64_in _ ⟨by omega, by omega⟩
    have v4 : IntKind.i64.wrap (s - (n : Int) * lo) = s - (n : Int) * lo := Go.IntWalk.i64_in _ ⟨by omega, by omega⟩
    go_quiet ((go_at_call 57; refine Calls.quiet_of_same (HS.out _ ?_); exact pw_below_drewN hB1 _))
    have hB2 := pw_below_drewN hB1 nq
    go_wp2_with (go_at_call 45; refine (HO.out _ (tab_below HT.out hB2)).mono ?_; rintro e w3 ⟨rfl, hw3⟩)
    have hB3 := below_below hB2 hB2.size hw3
    go_wp2_with (go_at_call 52; refine (HI.out _ (tab_below HT.out hB3)).mono ?_; rintro e w4 ⟨rfl, hw4⟩)
    go_wp2_with (go_at_call 58; refine (HCm.out _).mono ?_; rintro e w5 ⟨rfl, rfl⟩)
    go_ret3
    exact ⟨rfl, below_below hB3 hB3.size hw4⟩
  · rw [if_neg h0, if_neg h0]
    rw [if_neg h0] at HV
    have hb : (vryE xs lo hi != 0) = true := by simpa using h0
    clear hok h0
    generalize vryE xs lo hi = ev at *
    have HXn := Lib.hid HX.out.big
    generalize xs.length = n at *
    go_enter Tryz.func22, Tryz.ntmps22
    go_wp2_with (go_at_call 51; refine (HV.out _ hAH.out).mono ?_; rintro e w1 ⟨rfl, hw1⟩)
    have hB1 := below_below hAH.out hAH.out.size hw1
    go_ret3
    exact ⟨rfl, hB1⟩
end Go.Proofs.YtdkfebfedfemaaaGreatDoor
