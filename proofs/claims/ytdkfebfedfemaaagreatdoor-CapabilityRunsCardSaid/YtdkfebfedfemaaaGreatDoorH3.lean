/- The reference's Sum, Center, Side; the runs, value for value. -/
import Derived.Test.YtdkfebfedfemaaaGreatDoorH2
import Derived.Test.YtdkfebfedfemaaaGreatDoorO5
set_option linter.unusedVariables false
set_option linter.unusedSimpArgs false
namespace Go.Proofs.YtdkfebfedfemaaaGreatDoor
open Go.RowKit Go.Mlab

theorem mul_self_pos {s : Int} (h : s ≠ 0) : 0 < s * s := by
  rw [← Int.natAbs_mul_self' s]
  exact Int.mul_pos (by omega) (by omega)
theorem runFold_sign (lo hi : Int) (xs : List Int) (v : Int) :
    (sgn lo hi v = 0 → (runFold lo hi (xs ++ [v])).1 = 0) ∧ (sgn lo hi v ≠ 0 → 0 < sgn lo hi v * (runFold lo hi (xs ++ [v])).1) := by
  rw [runFold_snoc]
  unfold runStep
  generalize runFold lo hi xs = st
  obtain ⟨r, L⟩ := st
  generalize sgn lo hi v = s
  dsimp only
  split
  · rename_i h
    refine ⟨fun e => by subst e; simp at h, fun e => ?_⟩
    have := mul_self_pos e
    dsimp only
    rw [Int.mul_add]; omega
  · exact ⟨fun e => e, fun e => mul_self_pos e⟩
theorem runs_zero (lo hi : Int) (xs : List Int) (v : Int) (h : sgn lo hi v = 0) : runsL lo hi (xs ++ [v]) = runsL lo hi xs := by
  unfold runsL
  rw [runFold_snoc]
  unfold runStep
  generalize runFold lo hi xs = st
  obtain ⟨r, L⟩ := st
  rw [h, Int.zero_mul]
  simp
theorem runs_more (lo hi : Int) (xs : List Int) (u v : Int) (h : sgn lo hi v ≠ 0) (hu : sgn lo hi u = sgn lo hi v) :
    ∃ L r, runsL lo hi (xs ++ [u]) = L ++ [r] ∧ runsL lo hi (xs ++ [u] ++ [v]) = L ++ [r + sgn lo hi v] ∧ r.natAbs ≤ (xs ++ [u]).length ∧ L.length ≤ (xs ++ [u]).length := by
  have hbd := runFold_bd lo hi (xs ++ [u])
  have h1 := (runFold_sign lo hi xs u).2 (by rw [hu]; exact h)
  have hs := sgn_cases lo hi v
  rw [hu] at h1
  unfold runsL
  rw [runFold_snoc lo hi (xs ++ [u]) v]
  unfold runStep
  generalize runFold lo hi (xs ++ [u]) = st at *
  obtain ⟨r, L⟩ := st
  generalize sgn lo hi v = s at *
  dsimp only at h1 ⊢
  have h2 := run_abs hs h1
  rw [if_pos h1]
  dsimp only
  rw [if_neg (by intro e; subst e; simp at h1), if_neg (by omega)]
  exact ⟨L, r, rfl, rfl, hbd.1, hbd.2.1⟩
theorem runs_new (lo hi : Int) (xs : List Int) (v : Int) (h : sgn lo hi v ≠ 0) (hu : ∀ ys u, xs = ys ++ [u] → sgn lo hi u ≠ sgn lo hi v) :
    runsL lo hi (xs ++ [v]) = runsL lo hi xs ++ [sgn lo hi v] := by
  have key : ¬ 0 < sgn lo hi v * (runFold lo hi xs).1 := by
    rcases List.eq_nil_or_concat xs with rfl | ⟨ys, u, rfl⟩
    · simp [runFold]
    · have h0 := hu ys u (by simp)
      rw [List.concat_eq_append]
      have h1 := runFold_sign lo hi ys u
      have hs := sgn_cases lo hi v
      have ht := sgn_cases lo hi u
      generalize (runFold lo hi (ys ++ [u])).1 = r at *
      generalize sgn lo hi v = s at *
      generalize sgn lo hi u = t at *
      by_cases ht0 : t = 0
      · rw [h1.1 ht0]; simp
      · have h2 := h1.2 ht0
        have e : s = -t := by omega
        subst e
        rw [Int.neg_mul]; omega
  unfold runsL
  rw [runFold_snoc]
  unfold runStep
  generalize runFold lo hi xs = st at *
  obtain ⟨r, L⟩ := st
  rw [if_neg key]
  dsimp only
  rw [if_neg h]
set_option maxHeartbeats 1000000 in
theorem ref_sum_calls (A : Option Addr) (c : Nat) (xs : List Int) (w : World) (hx : IntsAt w A c xs) (ht : Tame xs) :
    Calls Tryz.prog 75 #[.slice A xs.length c] w fun e w' => e = .returned (.int .i64 (isum xs)) ∧ w' = w := by
  have hn2 := hx.big
  have HX := Lib.hid (And.intro hx ht)
  have hcap := hx.cap
  have hn4 := ht.1
  clear hx ht
  obtain ⟨n, hln⟩ : ∃ n, xs.length = n := ⟨_, rfl⟩
  rw [hln] at hn2 hcap hn4 ⊢
  have Hn := Lib.hid hln
  clear hln
  go_enter Tryz.func75, Tryz.ntmps75
  go_wp2
  go_loopg [3, 4] n (fun k v3 v4 wr => ∃ (i : Nat) (s : Int), v3 = .int .i64 s ∧ v4 = .int .i64 i ∧ k + i = n ∧ wr = w ∧ -17179869184 ≤ s ∧ s ≤ 17179869184 ∧ Hid (s = isum (xs.take i)))
  case atStart => exact ⟨0, 0, rfl, rfl, by omega, rfl, by decide, by decide, Lib.hid rfl⟩
  case round =>
    obtain ⟨i, s, rfl, rfl, hi, rfl, s0, s1, hr⟩ := hrel
    cases gk with
    | zero =>
      obtain rfl : i = n := by omega
      clear hi
      have e : s = isum xs := by rw [hr.out, ← Hn.out, List.take_length]
      clear hr
      subst e
      go_wp2
      go_ret
      exact ⟨rfl, rfl⟩
    | succ m =>
      have hin : i < n := by omega
      have hin2 : (i : Int) < n := by omega
      obtain ⟨b, o, rfl, hc⟩ := ints_get HX.out.1 (i := i) (by rw [Hn.out]; exact hin)
      have hv := HX.out.2.2 (xs.getD i 0) (getD_mem (by rw [Hn.out]; exact hin))
      have hs2 := tame_sum HX.out.2 (i + 1)
      have hs := isum_take_succ xs i (by rw [Hn.out]; exact hin)
      rw [hs, ← hr.out] at hs2
      have HS := Lib.hid hs
      clear hs
      generalize xs.getD i 0 = v at *
      have q0 := hs2.1
      have q1 := hs2.2
      go_wp2
      go_roundg m
      case measure => omega
      case rel => exact ⟨i + 1, _, rfl, by go_num, by omega, rfl, q0, q1, Lib.hid (by rw [HS.out, hr.out])⟩
theorem center_calls (A : Option Addr) (c : Nat) (xs : List Int) (w : World) (hx : IntsAt w A c xs) (ht : Tame xs) (h0 : xs ≠ []) :
    Calls Tryz.prog 42 #[.slice A xs.length c] w (LowPost (avg xs) w) := by
  have hl : 0 < xs.length := List.length_pos_iff.2 h0
  have hb := tame_isum ht
  have h4 := ht.1
  have HS := Lib.hid (ref_sum_calls A c xs w hx ht)
  have HO := Lib.hid (fun W => over_small (isum xs) xs.length W (by omega) (by omega) (by omega))
  unfold LowPost at *
  have e : Rat.divInt (isum xs) (xs.length : Int) = avg xs := rfl
  rw [e] at HO
  clear hx ht h0 hb e
  generalize isum xs = s at *
  generalize Q (avg xs) = q at *
  generalize xs.length = n at *
  go_enter Tryz.func42, Tryz.ntmps42
  go_wp2_with (go_at_call 75; refine (HS.out).mono ?_; rintro e w1 ⟨rfl, rfl⟩)
  go_wp2_with (go_at_call 39; refine (HO.out _).mono ?_; rintro e w2 ⟨rfl, hw2⟩)
  go_ret
  exact ⟨rfl, hw2⟩
theorem side_calls (v lo hi : Int) (w : World) (hv : -4194304 ≤ v ∧ v ≤ 4194304) (hl : -4194304 ≤ lo ∧ lo ≤ 4194304) (hh : -4194304 ≤ hi ∧ hi ≤ 4194304) :
    Calls Tryz.prog 64 #[.int .i64 v, .agg #[.int .i64 lo, .int .i64 hi]] w fun e w' => e = .returned (.int .i64 (sgn lo hi v)) ∧ Below w.heap.size w w' := by
  have HB := Lib.hid (show Below w.heap.size w (w.alloc (.cells #[.int .i64 lo, .int .i64 hi] 34)) from (Below.refl _ w).alloc (Nat.le_refl _) _)
  have c1 : (w.alloc (.cells #[.int .i64 lo, .int .i64 hi] 34)).cell? ⟨w.heap.size, 0, none⟩ = some (.int .i64 lo) := by rw [cell_of_row _ _ _ _ _ _ (alloc_new w _)]; rfl
  have c2 : (w.alloc (.cells #[.int .i64 lo, .int .i64 hi] 34)).cell? ⟨w.heap.size, 1, none⟩ = some (.int .i64 hi) := by rw [cell_of_row _ _ _ _ _ _ (alloc_new w _)]; rfl
  unfold sgn Lib.compareInt
  rcases Int.lt_trichotomy (2 * v) (lo + hi) with h | h | h
  · rw [if_pos h]
    go_enter Tryz.func64, Tryz.ntmps64
    go_wp2
    go_ret
    exact ⟨rfl, HB.out⟩
  · rw [if_neg (by omega), if_neg (by omega)]
    have h1 : lo + hi ≤ 2 * v := by omega
    have h2 : 2 * v ≤ lo + hi := by omega
    clear h
    go_enter Tryz.func64, Tryz.ntmps64
    go_wp2
    go_ret
    exact ⟨rfl, HB.out⟩
  · rw [if_neg (by omega), if_pos h]
    have h1 : lo + hi ≤ 2 * v := by omega
    go_enter Tryz.func64, Tryz.ntmps64
    go_wp2
    go_ret
    exact ⟨rfl, HB.out⟩
end Go.Proofs.YtdkfebfedfemaaaGreatDoor
