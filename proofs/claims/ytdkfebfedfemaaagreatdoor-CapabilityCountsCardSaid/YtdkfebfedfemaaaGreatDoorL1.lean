/- The laws' own small functions: Value, Check, Given of the references; right. -/
import Derived.Test.YtdkfebfedfemaaaGreatDoorKB
set_option linter.unusedVariables false
set_option linter.unusedSimpArgs false
namespace Go.Proofs.YtdkfebfedfemaaaGreatDoor
open Go.RowKit Go.Mlab

theorem value_calls (n : Int) (w : World) : Calls Tryz.prog 50 #[.int .i64 n] w fun e w' => e = .returned (.bool (inB n)) ∧ w' = w := by
  unfold inB
  by_cases h1 : -1048576 ≤ n
  · by_cases h2 : n ≤ 1048576
    · go_enter Tryz.func50, Tryz.ntmps50
      go_wp2
      go_ret
      exact ⟨by simp [h1, h2], rfl⟩
    · have h2' : 1048576 < n := by omega
      go_enter Tryz.func50, Tryz.ntmps50
      go_wp2
      go_ret
      exact ⟨by simp [h1, h2], rfl⟩
  · have h1' : n < -1048576 := by omega
    go_enter Tryz.func50, Tryz.ntmps50
    go_wp2
    go_ret
    exact ⟨by simp; omega, rfl⟩
set_option maxHeartbeats 1000000 in
theorem ref_check_calls (A : Option Addr) (c : Nat) (xs : List Int) (w : World) (hx : IntsAt w A c xs) :
    Calls Tryz.prog 19 #[.slice A xs.length c] w fun e w' => e = .returned (.int .i64 (serE xs)) ∧ w' = w := by
  have hbig := hx.big
  have hcap := hx.cap
  have HX := Lib.hid hx
  clear hx
  unfold serE
  by_cases h0 : xs = []
  · subst h0
    rw [if_pos rfl]
    clear HX
    simp only [List.length_nil]
    go_enter Tryz.func19, Tryz.ntmps19
    go_wp2
    go_ret
    exact ⟨rfl, rfl⟩
  · rw [if_neg h0]
    have hl0 : xs.length ≠ 0 := fun h => h0 (List.length_eq_zero_iff.1 h)
    clear h0
    by_cases h1 : 4096 < xs.length
    · rw [if_pos h1]
      clear HX
      generalize xs.length = n at *
      have hl1 : 1 ≤ n := by omega
      have hl2 : (n == 0) = false := by simpa using hl0
      have h1' : (4096 : Int) < n := by omega
      go_enter Tryz.func19, Tryz.ntmps19
      go_wp2
      go_ret
      exact ⟨rfl, rfl⟩
    · rw [if_neg h1]
      obtain ⟨n, hln⟩ : ∃ n, xs.length = n := ⟨_, rfl⟩
      rw [hln] at hbig hcap hl0 h1 ⊢
      obtain ⟨re, hre⟩ : ∃ re, (if xs.any outB = true then (2 : Int) else 0) = re := ⟨_, rfl⟩
      rw [hre]
      have HR := Lib.hid hre
      clear hre
      have Hn := Lib.hid hln
      clear hln
      have hl1 : 1 ≤ n := by omega
      have h1' : (n : Int) ≤ 4096 := by omega
      have hl2 : (n == 0) = false := by simpa using hl0
      have hl3 : ((n : Int) == 0) = false := by simpa using hl0
      clear hl0 h1
      have hb1 : decide ((4096 : Int) < n) = false := decide_eq_false (by omega)
      go_enter Tryz.func19, Tryz.ntmps19
      go_wp2
      go_loopg [3] n (fun k v3 wr => ∃ i : Nat, v3 = .int .i64 i ∧ k + i = n ∧ wr = w ∧ Hid ((xs.take i).any outB = false))
      case atStart => exact ⟨0, rfl, by omega, rfl, Lib.hid (by simp)⟩
      case round =>
        obtain ⟨i, rfl, hi, rfl, hr⟩ := hrel
        cases gk with
        | zero =>
          obtain rfl : i = n := by omega
          clear hi
          have he : xs.any outB = false := by have := hr.out; rw [← Hn.out, List.take_length] at this; exact this
          have H0 := Lib.hid (show re = 0 by rw [← HR.out, he]; rfl)
          clear he
          go_wp2
          go_ret
          exact ⟨by rw [H0.out]; rfl, rfl⟩
        | succ m =>
          have hin : i < n := by omega
          have hin2 : (i : Int) < n := by omega
          obtain ⟨b, o, rfl, hc⟩ := ints_get HX.out (i := i) (by rw [Hn.out]; exact hin)
          have HV := Lib.hid (value_calls (xs.getD i 0))
          have hsn : xs.take (i + 1) = xs.take i ++ [xs.getD i 0] := by
            rw [List.getD_eq_getElem?_getD]; exact take_snoc' (by rw [Hn.out]; exact hin)
          have hm := getD_mem (xs := xs) (i := i) (by rw [Hn.out]; exact hin)
          have HN := Lib.hid (show inB (xs.getD i 0) = true → (xs.take (i + 1)).any outB = false from fun h => by
            rw [hsn, List.any_append, hr.out, List.any_cons, List.any_nil]; unfold outB; rw [h]; rfl)
          have HB := Lib.hid (show inB (xs.getD i 0) = false → xs.any outB = true from fun h => List.any_eq_true.2 ⟨_, hm, by unfold outB; rw [h]; rfl⟩)
          clear hsn hm
          generalize xs.getD i 0 = x at *
          cases hp : inB x with
          | true =>
            have H2 := Lib.hid (HN.out hp)
            rw [hp] at HV
            clear hp HN HB
            go_wp2_with (go_at_call 50; refine (HV.out _).mono ?_; rintro e w1 ⟨rfl, rfl⟩)
            go_roundg m
            case measure => omega
            case rel => exact ⟨i + 1, by go_num, by omega, rfl, H2⟩
          | false =>
            have H0 := Lib.hid (show re = 2 by rw [← HR.out, HB.out hp]; rfl)
            rw [hp] at HV
            clear hp HN HB
            go_wp2_with (go_at_call 50; refine (HV.out _).mono ?_; rintro e w1 ⟨rfl, rfl⟩)
            go_ret
            exact ⟨by rw [H0.out]; rfl, rfl⟩
set_option maxHeartbeats 1000000 in
theorem given_calls (A : Option Addr) (c : Nat) (xs : List Int) (lo hi : Int) (w : World) (hx : IntsAt w A c xs) :
    Calls Tryz.prog 32 #[.slice A xs.length c, .agg #[.int .i64 lo, .int .i64 hi]] w fun e w' => e = .returned (.int .i64 (givE xs lo hi)) ∧ Below w.heap.size w w' := by
  have HC := Lib.hid (fun w (h : IntsAt w A c xs) => ref_check_calls A c xs w h)
  have HX := Lib.hid (ints_below hx ((Below.refl _ w).alloc (Nat.le_refl _) (.cells #[.int .i64 lo, .int .i64 hi] 34)))
  have H1 := Lib.hid (fun w => value_calls lo w)
  have H2 := Lib.hid (fun w => value_calls hi w)
  have hB := Lib.hid ((Below.refl _ w).alloc (Nat.le_refl _) (.cells #[.int .i64 lo, .int .i64 hi] 34))
  clear hx
  unfold givE
  generalize serE xs = e0 at *
  generalize xs.length = n at *
  generalize inB lo = p at *
  generalize inB hi = q at *
  by_cases h0 : e0 = 0
  · subst h0
    rw [if_neg (by decide)]
    cases p with
    | false =>
      rw [if_pos (.inl rfl)]
      go_enter Tryz.func32, Tryz.ntmps32
      go_wp2_with (first | (go_at_call 19; refine (HC.out _ HX.out).mono ?_; rintro e w1 ⟨rfl, rfl⟩) | (go_at_call 50; refine (H1.out _).mono ?_; rintro e w1 ⟨rfl, rfl⟩))
      go_ret
      exact ⟨rfl, hB.out⟩
    | true =>
      cases q with
      | false =>
        rw [if_pos (.inr rfl)]
        go_enter Tryz.func32, Tryz.ntmps32
        go_wp2_with (go_at_call 19; refine (HC.out _ HX.out).mono ?_; rintro e w1 ⟨rfl, rfl⟩)
        go_wp2_with (go_at_call 50; fail)
        refine (H1.out _).mono ?_
        rintro e w1 ⟨rfl, rfl⟩
        go_wp2_with (go_at_call 50; fail)
        refine (H2.out _).mono ?_
        rintro e w1 ⟨rfl, rfl⟩
        go_wp2
        go_ret
        exact ⟨rfl, hB.out⟩
      | true =>
        rw [if_neg (by simp)]
        by_cases hlh : hi < lo
        · rw [if_pos hlh]
          go_enter Tryz.func32, Tryz.ntmps32
          go_wp2_with (go_at_call 19; refine (HC.out _ HX.out).mono ?_; rintro e w1 ⟨rfl, rfl⟩)
          go_wp2_with (go_at_call 50; fail)
          refine (H1.out _).mono ?_
          rintro e w1 ⟨rfl, rfl⟩
          go_wp2_with (go_at_call 50; fail)
          refine (H2.out _).mono ?_
          rintro e w1 ⟨rfl, rfl⟩
          go_wp2
          go_ret
          exact ⟨rfl, hB.out⟩
        · rw [if_neg hlh]
          have hlh2 : lo ≤ hi := by omega
          clear hlh
          go_enter Tryz.func32, Tryz.ntmps32
          go_wp2_with (go_at_call 19; refine (HC.out _ HX.out).mono ?_; rintro e w1 ⟨rfl, rfl⟩)
          go_wp2_with (go_at_call 50; fail)
          refine (H1.out _).mono ?_
          rintro e w1 ⟨rfl, rfl⟩
          go_wp2_with (go_at_call 50; fail)
          refine (H2.out _).mono ?_
          rintro e w1 ⟨rfl, rfl⟩
          go_wp2
          go_ret
          exact ⟨rfl, hB.out⟩
  · rw [if_pos h0]
    have hb : (e0 != 0) = true := by simpa using h0
    clear h0
    go_enter Tryz.func32, Tryz.ntmps32
    go_wp2_with (go_at_call 19; refine (HC.out _ HX.out).mono ?_; rintro e w1 ⟨rfl, rfl⟩)
    go_ret
    exact ⟨rfl, hB.out⟩
/-- Right and short. -/
def rightB (xs : List Int) : Bool := decide (1 < xs.length) && (decide (xs.length ≤ 20) && !xs.any farB)
theorem rightB_iff {xs : List Int} : rightB xs = true ↔ 1 < xs.length ∧ xs.length ≤ 20 ∧ ∀ x ∈ xs, -8000 ≤ x ∧ x ≤ 8000 := by
  unfold rightB
  simp only [Bool.and_eq_true, decide_eq_true_eq, Bool.not_eq_true', List.any_eq_false]
  constructor
  · rintro ⟨h1, h2, h3⟩
    refine ⟨h1, h2, fun x hx => ?_⟩
    have := h3 x hx
    unfold farB at this
    simp at this
    exact this
  · rintro ⟨h1, h2, h3⟩
    refine ⟨h1, h2, fun x hx => ?_⟩
    have := h3 x hx
    unfold farB
    simp; exact this
set_option maxHeartbeats 1000000 in
theorem right_calls (A : Option Addr) (c : Nat) (xs : List Int) (w : World) (hx : IntsAt w A c xs) :
    Calls Tryz.prog 31 #[.slice A xs.length c] w fun e w' => e = .returned (.bool (rightB xs)) ∧ w' = w := by
  have HC := Lib.hid (contains_farB A c xs w hx)
  have hbig := hx.big
  clear hx
  unfold rightB
  generalize xs.any farB = p at *
  generalize xs.length = n at *
  by_cases h1 : 1 < n
  · have h1' : (1 : Int) < n := by omega
    rw [decide_eq_true h1, Bool.true_and]
    by_cases h2 : n ≤ 20
    · have h2' : (n : Int) ≤ 20 := by omega
      rw [decide_eq_true h2, Bool.true_and]
      clear h1 h2
      go_enter Tryz.func31, Tryz.ntmps31
      go_wp2_with (go_at_call 47; refine (HC.out).mono ?_; rintro e w1 ⟨rfl, rfl⟩)
      go_ret
      exact ⟨rfl, rfl⟩
    · have h2' : (20 : Int) < n := by omega
      have hb : decide ((n : Int) ≤ 20) = false := decide_eq_false (by omega)
      rw [decide_eq_false h2, Bool.false_and]
      clear h1 h2
      go_enter Tryz.func31, Tryz.ntmps31
      go_wp2
      go_ret
      exact ⟨rfl, rfl⟩
  · have h1' : (n : Int) ≤ 1 := by omega
    have hb : decide ((1 : Int) < n) = false := decide_eq_false (by omega)
    rw [decide_eq_false h1, Bool.false_and]
    clear h1
    go_enter Tryz.func31, Tryz.ntmps31
    go_wp2
    go_ret
    exact ⟨rfl, rfl⟩
end Go.Proofs.YtdkfebfedfemaaaGreatDoor
