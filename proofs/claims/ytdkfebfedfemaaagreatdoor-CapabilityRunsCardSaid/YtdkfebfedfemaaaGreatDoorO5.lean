/- The reference's integers: Shared; Lowest, Whole, Over. The reference's numbers: Lowest, Whole, Over. -/
import Derived.Test.YtdkfebfedfemaaaGreatDoorO3
import Derived.Test.YtdkfebfedfemaaaGreatDoorM9
import Derived.BigQuiet
set_option linter.unusedVariables false
set_option linter.unusedSimpArgs false
namespace Go.Proofs.YtdkfebfedfemaaaGreatDoor
open Go.RowKit Go.Mlab

theorem fdiv_rest (x y : Nat) : (x : Int) - (x : Int).fdiv y * y = ((x % y : Nat) : Int) := by
  rw [Int.fdiv_eq_ediv_of_nonneg _ (by omega)]
  have := Int.emod_add_mul_ediv (x : Int) y
  rw [Int.mul_comm] at this
  have h2 : ((x % y : Nat) : Int) = (x : Int) % y := rfl
  omega
def SharedPost (a b : Int) (w : World) (e : Ending) (w' : World) : Prop := e = .returned (.string (T ((Nat.gcd a.natAbs b.natAbs : Nat) : Int))) ∧ Below w.heap.size w w'
set_option maxRecDepth 100000 in
set_option maxHeartbeats 1000000 in
theorem shared_gen (K : Nat) (hK0 : 0 < K) (hK : K ≤ 1000000)
    (hP : ∀ (x y : Nat) (w : World), x < 10 ^ K → y < 10 ^ K → 0 < y → ¬ (x < 10 ^ 18 ∧ y < 10 ^ 18) → Calls Tryz.prog 103 #[.string (T x), .string (T y)] w (RPartedPost x y w))
    (a b : Int) (w : World) (ha : a.natAbs < 10 ^ K) (hb : b.natAbs < 10 ^ K) :
    Calls Tryz.prog 101 #[.string (T a), .string (T b)] w (SharedPost a b w) := by
  have HTb := Lib.hid (fun (z : Int) (h : z.natAbs < 10 ^ K) => T_bd (z := z) hK0 h)
  unfold SharedPost
  generalize 10 ^ K = P at *
  have A1 := Lib.hid (fun w => size_calls a w (by have := HTb.out a ha; omega))
  have B1 := Lib.hid (fun w => size_calls b w (by have := HTb.out b hb; omega))
  have A2 := Lib.hid (fun w => (show Calls Tryz.prog 134 #[.string (D a.natAbs), .bool false] w fun e w' => e = .returned (.string (T (a.natAbs : Nat))) ∧ w' = w from
    signed_calls a.natAbs false w (by have := HTb.out a ha; have := (D_natAbs_size a).1; omega)))
  have B2 := Lib.hid (fun w => (show Calls Tryz.prog 134 #[.string (D b.natAbs), .bool false] w fun e w' => e = .returned (.string (T (b.natAbs : Nat))) ∧ w' = w from
    signed_calls b.natAbs false w (by have := HTb.out b hb; have := (D_natAbs_size b).1; omega)))
  have HY := Lib.hid (fun (x y : Nat) (w : World) (h1 : x < 10 ^ 18) (h2 : y < 10 ^ 18) => brief_yes x y w (by omega) (by omega))
  have HNo := Lib.hid (fun (x y : Nat) (w : World) (hx : x < P) (hy : y < P) (h : ¬ (x < 10 ^ 18 ∧ y < 10 ^ 18)) => brief_no x y w (by omega) (by have := HTb.out (x : Int) (by omega); omega) (by have := HTb.out (y : Int) (by omega); omega))
  have HPt := Lib.hid hP
  clear hP HTb
  unfold RPartedPost at HPt
  generalize T a = s at *
  generalize T b = t at *
  generalize D a.natAbs = s2 at *
  generalize D b.natAbs = t2 at *
  generalize a.natAbs = x0 at *
  generalize b.natAbs = y0 at *
  go_enter Tryz.func101, Tryz.ntmps101
  go_wp2_with (go_at_call 135; fail)
  refine (A1.out _).mono ?_
  rintro e w1 ⟨rfl, rfl⟩
  go_wp2_with (go_at_call 134; fail)
  refine (A2.out _).mono ?_
  rintro e w1 ⟨rfl, rfl⟩
  go_wp2_with (go_at_call 135; fail)
  refine (B1.out _).mono ?_
  rintro e w1 ⟨rfl, rfl⟩
  go_wp2_with (go_at_call 134; fail)
  refine (B2.out _).mono ?_
  rintro e w1 ⟨rfl, rfl⟩
  have hg := Lib.hid (show x0 < P ∧ y0 < P ∧ Nat.gcd x0 y0 = Nat.gcd x0 y0 ∧ Below w1.heap.size w1 w1 from ⟨ha, hb, rfl, Below.refl _ _⟩)
  generalize hG : Nat.gcd x0 y0 = g at *
  clear A1 A2 B1 B2 ha hb
  go_wp2
  go_loopg [0, 1] y0 (fun k v0 v1 wr => ∃ x : Nat, v0 = .string (T x) ∧ v1 = .string (T k) ∧ Hid (x < P ∧ k < P ∧ Nat.gcd x k = g ∧ Below w1.heap.size w1 wr))
  case atStart => exact ⟨x0, rfl, rfl, ⟨hg.out.1, hg.out.2.1, hG, hg.out.2.2.2⟩⟩
  case round =>
    obtain ⟨x, rfl, rfl, hr⟩ := hrel
    by_cases h0 : gk = 0
    · subst h0
      have hx : x = g := by have := hr.out.2.2.1; rwa [Nat.gcd_zero_right] at this
      have HX := Lib.hid (show T x = T ((x0.gcd y0 : Nat) : Int) by rw [hG, hx])
      have HB := Lib.hid hr.out.2.2.2
      clear hx hr hg
      rw [show ((0 : Nat) : Int) = 0 from rfl, T_zero_bytes]
      generalize T x = st at *
      go_wp2
      go_ret
      exact ⟨by rw [← HX.out]; rfl, HB.out⟩
    · have hz := T_is0 (z := gk) (by omega)
      by_cases hsh : x < 10 ^ 18 ∧ gk < 10 ^ 18
      · have hbr := Lib.hid (HY.out x gk wr hsh.1 hsh.2)
        clear HY HNo HPt
        generalize T x = st at *
        generalize T gk = tt at *
        go_wp2_with (go_at_call 136; refine (hbr.out).mono ?_; rintro e w2 ⟨rfl, rfl⟩)
        have h18 := Lib.hid (And.intro hsh.1 hsh.2)
        go_loopg [5, 6] gk (fun k v5 v6 wr2 => ∃ m : Nat, v5 = .int .i64 m ∧ v6 = .int .i64 k ∧ m < 10 ^ 18 ∧ k < 10 ^ 18 ∧ Hid (Nat.gcd m k = g ∧ Below w1.heap.size w1 wr2))
        case atStart => exact ⟨x, rfl, rfl, hsh.1, hsh.2, ⟨hr.out.2.2.1, hr.out.2.2.2⟩⟩
        case round =>
          obtain ⟨m, rfl, rfl, hm, hk, hr2⟩ := hrel
          clear hr hbr h18 hz hsh
          by_cases hk0 : gk = 0
          · subst hk0
            have hmg : m = g := by have := hr2.out.1; rwa [Nat.gcd_zero_right] at this
            have HX := Lib.hid (rof_calls m wr (by omega))
            have HE := Lib.hid (show T ((m : Nat) : Int) = T ((x0.gcd y0 : Nat) : Int) by rw [hG, hmg])
            have HB := Lib.hid hr2.out.2
            clear hmg hr2 hG hg
            generalize T (m : Int) = res at *
            go_wp2_with (go_at_call 69; refine (HX.out).mono ?_; rintro e w3 ⟨rfl, hw3⟩)
            go_ret
            exact ⟨by rw [← HE.out]; rfl, below_below HB.out HB.out.size hw3⟩
          · have hk1 : (0 : Int) < gk := by omega
            have hm0 : (0 : Int) ≤ m := by omega
            have hmod : m % gk < gk := Nat.mod_lt _ (by omega)
            have HM := Lib.hid (show (m : Int) % gk = ((m % gk : Nat) : Int) from rfl)
            have HG := Lib.hid (show Nat.gcd gk (m % gk) = g by rw [← hr2.out.1, Nat.gcd_comm m gk, Nat.gcd_rec gk m, Nat.gcd_comm])
            have hmk := Lib.hid hmod
            clear hmod
            go_wp2
            go_quiet (fail)
            go_wp2
            go_roundg (m % gk)
            case measure => exact hmk.out
            case rel => exact ⟨gk, rfl, by rw [HM.out], hk, Nat.lt_trans hmk.out hk, ⟨HG.out, pw_below_drewN hr2.out.2 _⟩⟩
      · have hbr := Lib.hid (HNo.out x gk wr hr.out.1 hr.out.2.1 hsh)
        have hpt := Lib.hid (HPt.out x gk wr hr.out.1 hr.out.2.1 (by omega) hsh)
        clear HY HNo HPt
        rw [fdiv_rest] at hpt
        generalize T ((x : Int).fdiv gk) = qt at *
        have hm := Nat.mod_lt x (show 0 < gk by omega)
        have HG := Lib.hid (show Nat.gcd gk (x % gk) = g by rw [← hr.out.2.2.1, Nat.gcd_comm x gk, Nat.gcd_rec gk x, Nat.gcd_comm])
        go_wp2_with (go_at_call 136; refine (hbr.out).mono ?_; rintro e w2 ⟨rfl, rfl⟩)
        go_wp2_with (go_at_call 103; refine (hpt.out).mono ?_; rintro e w3 ⟨rfl, hw3⟩)
        go_roundg (x % gk)
        case measure => exact hm
        case rel => exact ⟨gk, rfl, rfl, ⟨hr.out.2.1, Nat.lt_trans hm hr.out.2.1, HG.out, below_below hr.out.2.2.2 hr.out.2.2.2.size hw3⟩⟩
theorem shared_small (a b : Int) (w : World) (ha : a.natAbs < 10 ^ 18) (hb : b.natAbs < 10 ^ 18) :
    Calls Tryz.prog 101 #[.string (T a), .string (T b)] w (SharedPost a b w) :=
  shared_gen 18 (by decide) (by decide) (fun x y w hx hy _ h => absurd ⟨hx, hy⟩ h) a b w ha hb
end Go.Proofs.YtdkfebfedfemaaaGreatDoor
set_option linter.unusedVariables false
set_option linter.unusedSimpArgs false
namespace Go.Proofs.YtdkfebfedfemaaaGreatDoor
open Go.RowKit Go.Mlab

theorem gsign_size {num den : Int} {P : Nat} (hd : den ≠ 0) (h : den.natAbs < P) : (gsign num den).natAbs < P := by
  have h1 : Nat.gcd num.natAbs den.natAbs ≤ den.natAbs := Nat.le_of_dvd (by omega) (Nat.gcd_dvd_right _ _)
  unfold gsign
  split <;> omega
theorem Q_one {r : Rat} (h : r.den = 1) : Q r = T r.num := by unfold Q T; rw [qtext_one h]
theorem Q_den {r : Rat} (h : r.den ≠ 1) : Q r = T r.num ++ { data := #[47] } ++ T (r.den : Int) := by
  apply WideShapes.bytes_inj
  rw [Joins.data_append, Joins.data_append]
  unfold Q T
  rw [S_toList, S_toList, S_toList, qtext_den h]
  simp
def LowPost (r : Rat) (w : World) (e : Ending) (w' : World) : Prop := e = .returned (.string (Q r)) ∧ Below w.heap.size w w'
set_option maxRecDepth 100000 in
theorem lowest_gen (K : Nat) (hK0 : 0 < K) (hK : K ≤ 1000000) (num den : Int) (w : World) (hd : den ≠ 0) (hn1 : num.natAbs < 10 ^ K) (hd1 : den.natAbs < 10 ^ K)
    (hS : ∀ w, Calls Tryz.prog 101 #[.string (T num), .string (T den)] w (SharedPost num den w))
    (hP1 : ∀ w, Calls Tryz.prog 103 #[.string (T num), .string (T (gsign num den))] w (RPartedPost num (gsign num den) w))
    (hP2 : ∀ w, Calls Tryz.prog 103 #[.string (T den), .string (T (gsign num den))] w (RPartedPost den (gsign num den) w)) :
    Calls Tryz.prog 70 #[.string (T num), .string (T den)] w (LowPost (Rat.divInt num den) w) := by
  have hle := divInt_le (a := num) hd
  have s1 : (T (Rat.divInt num den).num).size ≤ K + 1 := T_bd hK0 (by omega)
  have s2 : (T ((Rat.divInt num den).den : Int)).size ≤ K + 1 := T_bd hK0 (by omega)
  have s3 : (T ((Nat.gcd num.natAbs den.natAbs : Nat) : Int)).size ≤ K + 1 := T_bd hK0 (by
    have h1 : Nat.gcd num.natAbs den.natAbs ≤ den.natAbs := Nat.le_of_dvd (by omega) (Nat.gcd_dvd_right _ _)
    omega)
  have HS := Lib.hid hS
  have HP1 := Lib.hid hP1
  have HP2 := Lib.hid hP2
  have HB := Lib.hid (fun w => below_calls den w)
  have HTn := Lib.hid (fun w => turned_calls ((Nat.gcd num.natAbs den.natAbs : Nat) : Int) w (by omega))
  have HQ1 := Lib.hid (fun h => Q_one (r := Rat.divInt num den) h)
  have HQ2 := Lib.hid (fun h => Q_den (r := Rat.divInt num den) h)
  have hone := Lib.hid (fun h => T_is1 (z := ((Rat.divInt num den).den : Int)) h)
  unfold SharedPost at HS
  unfold RPartedPost at HP1 HP2
  rw [low_num hd] at HP1
  rw [low_den hd] at HP2
  unfold LowPost
  have hgs : gsign num den = if den < 0 then -((Nat.gcd num.natAbs den.natAbs : Nat) : Int) else ((Nat.gcd num.natAbs den.natAbs : Nat) : Int) := rfl
  have u3 : ((T (Rat.divInt num den).num).size : Int) ≤ 1000001 := by omega
  have u4 : ((T ((Rat.divInt num den).den : Int)).size : Int) ≤ 1000001 := by omega
  clear hS hP1 hP2 hn1 hd1 hle s1 s2 s3 hd
  generalize num - (Rat.divInt num den).num * gsign num den = r1 at *
  generalize den - ((Rat.divInt num den).den : Int) * gsign num den = r2 at *
  generalize gsign num den = gs at *
  generalize Rat.divInt num den = q at *
  generalize ((Nat.gcd num.natAbs den.natAbs : Nat) : Int) = g at *
  have u5 : ¬ 9223372036854775807 < (T q.num).size + 1 := by omega
  have u6 : ¬ 9223372036854775807 < (T q.num).size + 1 + (T (q.den : Int)).size := by omega
  by_cases hb : den < 0
  · rw [if_pos hb] at hgs
    subst hgs
    rw [decide_eq_true hb] at HB
    by_cases h1 : q.den = 1
    · have e1 : T (q.den : Int) = { data := #[49] } := by rw [h1]; exact T_one
      rw [e1] at HP2 HQ2
      clear hone u3 u4 u5 u6 e1 hb
      have h1 := Lib.hid h1
      go_enter Tryz.func70, Tryz.ntmps70
      go_wp2_with (go_at_call 101; refine (HS.out _).mono ?_; rintro e w1 ⟨rfl, hw1⟩)
      go_wp2_with (go_at_call 102; refine (HB.out _).mono ?_; rintro e w2 ⟨rfl, rfl⟩)
      go_wp2_with (go_at_call 100; refine (HTn.out _).mono ?_; rintro e w3 ⟨rfl, rfl⟩)
      go_wp2_with (go_at_call 103; fail)
      refine (HP1.out _).mono ?_
      rintro e w4 ⟨rfl, hw4⟩
      go_wp2_with (go_at_call 103; fail)
      refine (HP2.out _).mono ?_
      rintro e w5 ⟨rfl, hw5⟩
      have hb1 := Lib.hid (below_below (below_below hw1 hw1.size hw4) (below_below hw1 hw1.size hw4).size hw5)
      go_wp2
      go_ret
      exact ⟨by rw [HQ1.out h1.out]; rfl, hb1.out⟩
    · have e1 := hone.out (by omega)
      clear hone hb
      generalize T (q.den : Int) = td at *
      go_enter Tryz.func70, Tryz.ntmps70
      go_wp2_with (go_at_call 101; refine (HS.out _).mono ?_; rintro e w1 ⟨rfl, hw1⟩)
      go_wp2_with (go_at_call 102; refine (HB.out _).mono ?_; rintro e w2 ⟨rfl, rfl⟩)
      go_wp2_with (go_at_call 100; refine (HTn.out _).mono ?_; rintro e w3 ⟨rfl, rfl⟩)
      go_wp2_with (go_at_call 103; fail)
      refine (HP1.out _).mono ?_
      rintro e w4 ⟨rfl, hw4⟩
      go_wp2_with (go_at_call 103; fail)
      refine (HP2.out _).mono ?_
      rintro e w5 ⟨rfl, hw5⟩
      have hb1 := Lib.hid (below_below (below_below hw1 hw1.size hw4) (below_below hw1 hw1.size hw4).size hw5)
      go_wp2
      go_ret
      exact ⟨by rw [HQ2.out h1]; rfl, hb1.out⟩
  · rw [if_neg hb] at hgs
    subst hgs
    rw [decide_eq_false hb] at HB
    by_cases h1 : q.den = 1
    · have e1 : T (q.den : Int) = { data := #[49] } := by rw [h1]; exact T_one
      rw [e1] at HP2 HQ2
      clear hone u3 u4 u5 u6 e1 hb
      have h1 := Lib.hid h1
      go_enter Tryz.func70, Tryz.ntmps70
      go_wp2_with (go_at_call 101; refine (HS.out _).mono ?_; rintro e w1 ⟨rfl, hw1⟩)
      go_wp2_with (go_at_call 102; refine (HB.out _).mono ?_; rintro e w2 ⟨rfl, rfl⟩)
      go_wp2_with (go_at_call 103; fail)
      refine (HP1.out _).mono ?_
      rintro e w4 ⟨rfl, hw4⟩
      go_wp2_with (go_at_call 103; fail)
      refine (HP2.out _).mono ?_
      rintro e w5 ⟨rfl, hw5⟩
      have hb1 := Lib.hid (below_below (below_below hw1 hw1.size hw4) (below_below hw1 hw1.size hw4).size hw5)
      go_wp2
      go_ret
      exact ⟨by rw [HQ1.out h1.out]; rfl, hb1.out⟩
    · have e1 := hone.out (by omega)
      clear hone hb
      generalize T (q.den : Int) = td at *
      go_enter Tryz.func70, Tryz.ntmps70
      go_wp2_with (go_at_call 101; refine (HS.out _).mono ?_; rintro e w1 ⟨rfl, hw1⟩)
      go_wp2_with (go_at_call 102; refine (HB.out _).mono ?_; rintro e w2 ⟨rfl, rfl⟩)
      go_wp2_with (go_at_call 103; fail)
      refine (HP1.out _).mono ?_
      rintro e w4 ⟨rfl, hw4⟩
      go_wp2_with (go_at_call 103; fail)
      refine (HP2.out _).mono ?_
      rintro e w5 ⟨rfl, hw5⟩
      have hb1 := Lib.hid (below_below (below_below hw1 hw1.size hw4) (below_below hw1 hw1.size hw4).size hw5)
      go_wp2
      go_ret
      exact ⟨by rw [HQ2.out h1]; rfl, hb1.out⟩
theorem lowest_small (num den : Int) (w : World) (hd : den ≠ 0) (hn1 : num.natAbs < 10 ^ 18) (hd1 : den.natAbs < 10 ^ 18) :
    Calls Tryz.prog 70 #[.string (T num), .string (T den)] w (LowPost (Rat.divInt num den) w) :=
  lowest_gen 18 (by decide) (by decide) num den w hd hn1 hd1 (fun w => shared_small num den w hn1 hd1)
    (fun w => rparted_small num _ w hn1 (gsign_size hd hd1) (gsign_ne hd)) (fun w => rparted_small den _ w hd1 (gsign_size hd hd1) (gsign_ne hd))
theorem Q_int (z : Int) : Q (z : Rat) = T z := Q_one (r := (z : Rat)) rfl
theorem rwhole_calls (z : Int) (w : World) (h : -9223372036854775808 ≤ z ∧ z ≤ 9223372036854775807) :
    Calls Tryz.prog 38 #[.int .i64 z] w fun e w' => e = .returned (.string (T z)) ∧ Below w.heap.size w w' := by
  have H := Lib.hid (fun w => rof_calls z w h)
  clear h
  generalize T z = s at *
  go_enter Tryz.func38, Tryz.ntmps38
  go_wp2_with (go_at_call 69; refine (H.out _).mono ?_; rintro e w1 ⟨rfl, hw1⟩)
  go_ret
  exact ⟨rfl, hw1⟩
theorem over_small (num den : Int) (w : World) (hd : den ≠ 0) (hn1 : num.natAbs < 10 ^ 18) (hd1 : den.natAbs < 10 ^ 18) :
    Calls Tryz.prog 39 #[.int .i64 num, .int .i64 den] w (LowPost (Rat.divInt num den) w) := by
  have H1 := Lib.hid (fun w => rof_calls num w (by omega))
  have H2 := Lib.hid (fun w => rof_calls den w (by omega))
  have HL := Lib.hid (fun w => lowest_small num den w hd hn1 hd1)
  unfold LowPost at *
  clear hd hn1 hd1
  generalize T num = s at *
  generalize T den = t at *
  generalize Q (Rat.divInt num den) = q at *
  go_enter Tryz.func39, Tryz.ntmps39
  go_wp2_with (go_at_call 69; fail)
  refine (H1.out _).mono ?_
  rintro e w1 ⟨rfl, hw1⟩
  go_wp2_with (go_at_call 69; fail)
  refine (H2.out _).mono ?_
  rintro e w2 ⟨rfl, hw2⟩
  go_wp2_with (go_at_call 70; refine (HL.out _).mono ?_; rintro e w3 ⟨rfl, hw3⟩)
  go_ret
  exact ⟨rfl, below_below (below_below hw1 hw1.size hw2) (below_below hw1 hw1.size hw2).size hw3⟩
end Go.Proofs.YtdkfebfedfemaaaGreatDoor
