/- capability: both, sum, mean, Mean, variance, Variance. -/
import Derived.Test.YtdkfebfedfemaaaGreatDoorK1
set_option linter.unusedVariables false
set_option linter.unusedSimpArgs false
namespace Go.Proofs.YtdkfebfedfemaaaGreatDoor
open Go.RowKit Go.Mlab

/-- The number of the error of a series with limits. -/
def givE (xs : List Int) (lo hi : Int) : Int := if serE xs ≠ 0 then serE xs else if inB lo = false ∨ inB hi = false then 2 else if hi < lo then 9 else 0
set_option maxHeartbeats 1000000 in
theorem both_calls (A : Option Addr) (c : Nat) (xs : List Int) (lo hi : Int) (w : World) (hx : IntsAt w A c xs) :
    Calls Tryz.prog 61 #[.slice A xs.length c, .agg #[.int .i64 lo, .int .i64 hi]] w fun e w' => e = .returned (.int .i64 (givE xs lo hi)) ∧ Below w.heap.size w w' := by
  have HC := Lib.hid (fun w (h : IntsAt w A c xs) => cap_check_calls A c xs w h)
  have HX := Lib.hid (ints_below hx ((Below.refl _ w).alloc (Nat.le_refl _) (.cells #[.int .i64 lo, .int .i64 hi] 34)))
  have H1 := Lib.hid (fun w => in_calls lo w)
  have H2 := Lib.hid (fun w => in_calls hi w)
  have hB := Lib.hid ((Below.refl _ w).alloc (Nat.le_refl _) (.cells #[.int .i64 lo, .int .i64 hi] 34))
  clear hx
  unfold givE
  generalize serE xs = e0 at *
  generalize xs.length = n at *
  generalize inB lo = p at *
  generalize inB hi = q at *
  by_cases h0 : e0 = 0
  · subst h0
    rw [if_neg (by decide)]
    cases p with
    | false =>
      rw [if_pos (.inl rfl)]
      go_enter Tryz.func61, Tryz.ntmps61
      go_wp2_with (go_at_call 18; refine (HC.out _ HX.out).mono ?_; rintro e w1 ⟨rfl, rfl⟩)
      go_wp2_with (go_at_call 49; refine (H1.out _).mono ?_; rintro e w1 ⟨rfl, rfl⟩)
      go_ret
      exact ⟨rfl, hB.out⟩
    | true =>
      cases q with
      | false =>
        rw [if_pos (.inr rfl)]
        go_enter Tryz.func61, Tryz.ntmps61
        go_wp2_with (go_at_call 18; refine (HC.out _ HX.out).mono ?_; rintro e w1 ⟨rfl, rfl⟩)
        go_wp2_with (go_at_call 49; fail)
        refine (H1.out _).mono ?_
        rintro e w1 ⟨rfl, rfl⟩
        go_wp2_with (go_at_call 49; fail)
        refine (H2.out _).mono ?_
        rintro e w1 ⟨rfl, rfl⟩
        go_wp2
        go_ret
        exact ⟨rfl, hB.out⟩
      | true =>
        rw [if_neg (by simp)]
        by_cases hh : hi < lo
        · rw [if_pos hh]
          go_enter Tryz.func61, Tryz.ntmps61
          go_wp2_with (go_at_call 18; refine (HC.out _ HX.out).mono ?_; rintro e w1 ⟨rfl, rfl⟩)
          go_wp2_with (go_at_call 49; fail)
          refine (H1.out _).mono ?_
          rintro e w1 ⟨rfl, rfl⟩
          go_wp2_with (go_at_call 49; fail)
          refine (H2.out _).mono ?_
          rintro e w1 ⟨rfl, rfl⟩
          go_wp2
          go_ret
          exact ⟨rfl, hB.out⟩
        · rw [if_neg hh]
          go_enter Tryz.func61, Tryz.ntmps61
          go_wp2_with (go_at_call 18; refine (HC.out _ HX.out).mono ?_; rintro e w1 ⟨rfl, rfl⟩)
          go_wp2_with (go_at_call 49; fail)
          refine (H1.out _).mono ?_
          rintro e w1 ⟨rfl, rfl⟩
          go_wp2_with (go_at_call 49; fail)
          refine (H2.out _).mono ?_
          rintro e w1 ⟨rfl, rfl⟩
          go_wp2
          go_ret
          exact ⟨rfl, hB.out⟩
  · rw [if_pos h0]
    have hb : (e0 != 0) = true := by simpa using h0
    go_enter Tryz.func61, Tryz.ntmps61
    go_wp2_with (go_at_call 18; refine (HC.out _ HX.out).mono ?_; rintro e w1 ⟨rfl, rfl⟩)
    go_ret
    exact ⟨rfl, hB.out⟩

/-- A list of few small numbers. -/
def Tame (xs : List Int) : Prop := xs.length ≤ 4096 ∧ ∀ x ∈ xs, -4194304 ≤ x ∧ x ≤ 4194304
theorem tame_get {xs : List Int} (h : Tame xs) (i : Nat) : -4194304 ≤ xs.getD i 0 ∧ xs.getD i 0 ≤ 4194304 := by
  rcases Nat.lt_or_ge i xs.length with h1 | h1
  · exact h.2 _ (getD_mem h1)
  · rw [List.getD_eq_getElem?_getD, List.getElem?_eq_none h1]; decide
theorem isum_tame {k : Int} (hk : 0 ≤ k) : ∀ (l : List Int), (∀ x ∈ l, -k ≤ x ∧ x ≤ k) → -(l.length * k) ≤ isum l ∧ isum l ≤ l.length * k
  | [], _ => by simp [isum]
  | x :: r, h => by
    have h1 := isum_tame hk r (fun x hx => h x (List.mem_cons_of_mem _ hx))
    have h2 := h x List.mem_cons_self
    have h3 : ((r.length + 1 : Nat) : Int) * k = r.length * k + k := by rw [Int.natCast_add, Int.add_mul]; simp
    rw [List.length_cons, h3]
    simp only [isum]
    omega
theorem tame_sum {xs : List Int} (h : Tame xs) (i : Nat) : -17179869184 ≤ isum (xs.take i) ∧ isum (xs.take i) ≤ 17179869184 := by
  have h1 := isum_tame (k := 4194304) (by decide) (xs.take i) (fun x hx => h.2 x (List.mem_of_mem_take hx))
  have h2 : ((xs.take i).length : Int) * 4194304 ≤ 4096 * 4194304 := Int.mul_le_mul_of_nonneg_right (by rw [List.length_take]; have := h.1; omega) (by decide)
  omega
set_option maxHeartbeats 1000000 in
theorem sum_total_calls (A : Option Addr) (c : Nat) (xs : List Int) (w : World) (hx : IntsAt w A c xs) (ht : Tame xs) :
    Calls Tryz.prog 88 #[.slice A xs.length c, .func (.func 89) #[] #[], .func (.func 90) #[] #[]] w fun e w' => e = .returned (.int .i64 (isum xs)) ∧ w' = w := by
  have hn2 := hx.big
  have HX := Lib.hid (And.intro hx ht)
  have hcap := hx.cap
  clear hx ht
  obtain ⟨n, hln⟩ : ∃ n, xs.length = n := ⟨_, rfl⟩
  rw [hln] at hn2 hcap ⊢
  have Hn := Lib.hid hln
  clear hln
  go_enter Tryz.func88, Tryz.ntmps88
  go_wp2
  go_loopg [7, 13] n (fun k v7 v13 wr => ∃ (i : Nat) (s : Int), v7 = .int .i64 s ∧ v13 = .int .i64 i ∧ k + i = n ∧ wr = w ∧ -17179869184 ≤ s ∧ s ≤ 17179869184 ∧ Hid (s = isum (xs.take i)))
  case atStart => exact ⟨0, 0, rfl, rfl, by omega, rfl, by decide, by decide, Lib.hid rfl⟩
  case round =>
    obtain ⟨i, s, rfl, rfl, hi, rfl, s0, s1, hr⟩ := hrel
    cases gk with
    | zero =>
      obtain rfl : i = n := by omega
      clear hi
      go_wp2
      go_ret
      refine ⟨?_, rfl⟩
      have := hr.out
      rw [← Hn.out, List.take_length] at this
      rw [← this]; rfl
    | succ m =>
      have hin : i < n := by omega
      have hin2 : (i : Int) < n := by omega
      obtain ⟨b, o, rfl, hc⟩ := ints_get HX.out.1 (i := i) (by rw [Hn.out]; exact hin)
      have hg := tame_get HX.out.2 i
      have hN := Lib.hid (isum_take_succ xs i (by rw [Hn.out]; exact hin))
      have hT := tame_sum HX.out.2 (i + 1)
      have hsum : s + xs.getD i 0 = isum (xs.take (i + 1)) := by rw [hN.out, ← hr.out]
      rw [← hsum] at hT
      have HS := Lib.hid hsum
      clear hsum hN
      generalize xs.getD i 0 = x at *
      cases i with
      | zero =>
        have hs0 : s = 0 := by have := hr.out; simpa [isum] using this
        subst hs0
        rw [Nat.add_zero] at hc
        have hin3 : (0 : Int) < n := by omega
        go_wp2
        go_roundg m
        case measure => omega
        case rel => exact ⟨1, x, rfl, rfl, by omega, rfl, by omega, by omega, Lib.hid (by have := HS.out; simpa using this)⟩
      | succ i =>
        have hib : (((i + 1 : Nat) : Int) == 0) = false := by rw [beq_eq_false_iff_ne]; omega
        go_wp2
        go_roundg m
        case measure => omega
        case rel => exact ⟨i + 1 + 1, s + x, rfl, by go_num, by omega, rfl, by omega, by omega, Lib.hid HS.out⟩
theorem cap_sum_calls (A : Option Addr) (c : Nat) (xs : List Int) (w : World) (hx : IntsAt w A c xs) (ht : Tame xs) :
    Calls Tryz.prog 57 #[.slice A xs.length c] w fun e w' => e = .returned (.int .i64 (isum xs)) ∧ w' = w := by
  have H := Lib.hid (sum_total_calls A c xs w hx ht)
  clear hx ht
  go_enter Tryz.func57, Tryz.ntmps57
  go_wp2_with (go_at_call 88; refine (H.out).mono ?_; rintro e w1 ⟨rfl, rfl⟩)
  go_ret
  exact ⟨rfl, rfl⟩
end Go.Proofs.YtdkfebfedfemaaaGreatDoor
