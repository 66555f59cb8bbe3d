/- The laws' own small functions: Value, Check, Given of the references; right. awake: the examples of the chapter. -/
import Derived.Test.YtdkfebfedfemaaaGreatDoorKB
set_option linter.unusedVariables false
set_option linter.unusedSimpArgs false
namespace Go.Proofs.YtdkfebfedfemaaaGreatDoor
open Go.RowKit Go.Mlab

theorem value_calls (n : Int) (w : World) : Calls Tryz.prog 50 #[.int .i64 n] w fun e w' => e = .returned (.bool (inB n)) ∧ w' = w := by
  unfold inB
  by_cases h1 : -1048576 ≤ n
  · by_cases h2 : n ≤ 1048576
    · go_enter Tryz.func50, Tryz.ntmps50
      go_wp2
      go_ret
      exact ⟨by simp [h1, h2], rfl⟩
    · have h2' : 1048576 < n := by omega
      go_enter Tryz.func50, Tryz.ntmps50
      go_wp2
      go_ret
      exact ⟨by simp [h1, h2], rfl⟩
  · have h1' : n < -1048576 := by omega
    go_enter Tryz.func50, Tryz.ntmps50
    go_wp2
    go_ret
    exact ⟨by simp; omega, rfl⟩
set_option maxHeartbeats 1000000 in
theorem ref_check_calls (A : Option Addr) (c : Nat) (xs : List Int) (w : World) (hx : IntsAt w A c xs) :
    Calls Tryz.prog 19 #[.slice A xs.length c] w fun e w' => e = .returned (.int .i64 (serE xs)) ∧ w' = w := by
  have hbig := hx.big
  have hcap := hx.cap
  have HX := Lib.hid hx
  clear hx
  unfold serE
  by_cases h0 : xs = []
  · subst h0
    rw [if_pos rfl]
    clear HX
    simp only [List.length_nil]
    go_enter Tryz.func19, Tryz.ntmps19
    go_wp2
    go_ret
    exact ⟨rfl, rfl⟩
  · rw [if_neg h0]
    have hl0 : xs.length ≠ 0 := fun h => h0 (List.length_eq_zero_iff.1 h)
    clear h0
    by_cases h1 : 4096 < xs.length
    · rw [if_pos h1]
      clear HX
      generalize xs.length = n at *
      have hl1 : 1 ≤ n := by omega
      have hl2 : (n == 0) = false := by simpa using hl0
      have h1' : (4096 : Int) < n := by omega
      go_enter Tryz.func19, Tryz.ntmps19
      go_wp2
      go_ret
      exact ⟨rfl, rfl⟩
    · rw [if_neg h1]
      obtain ⟨n, hln⟩ : ∃ n, xs.length = n := ⟨_, rfl⟩
      rw [hln] at hbig hcap hl0 h1 ⊢
      obtain ⟨re, hre⟩ : ∃ re, (if xs.any outB = true then (2 : Int) else 0) = re := ⟨_, rfl⟩
      rw [hre]
      have HR := Lib.hid hre
      clear hre
      have Hn := Lib.hid hln
      clear hln
      have hl1 : 1 ≤ n := by omega
      have h1' : (n : Int) ≤ 4096 := by omega
      have hl2 : (n == 0) = false := by simpa using hl0
      have hl3 : ((n : Int) == 0) = false := by simpa using hl0
      clear hl0 h1
      have hb1 : decide ((4096 : Int) < n) = false := decide_eq_false (by omega)
      go_enter Tryz.func19, Tryz.ntmps19
      go_wp2
      go_loopg [3] n (fun k v3 wr => ∃ i : Nat, v3 = .int .i64 i ∧ k + i = n ∧ wr = w ∧ Hid ((xs.take i).any outB = false))
      case atStart => exact ⟨0, rfl, by omega, rfl, Lib.hid (by simp)⟩
      case round =>
        obtain ⟨i, rfl, hi, rfl, hr⟩ := hrel
        cases gk with
        | zero =>
          obtain rfl : i = n := by omega
          clear hi
          have he : xs.any outB = false := by have := hr.out; rw [← Hn.out, List.take_length] at this; exact this
          have H0 := Lib.hid (show re = 0 by rw [← HR.out, he]; rfl)
          clear he
          go_wp2
          go_ret
          exact ⟨by rw [H0.out]; rfl, rfl⟩
        | succ m =>
          have hin : i < n := by omega
          have hin2 : (i : Int) < n := by omega
          obtain ⟨b, o, rfl, hc⟩ := ints_get HX.out (i := i) (by rw [Hn.out]; exact hin)
          have HV := Lib.hid (value_calls (xs.getD i 0))
          have hsn : xs.take (i + 1) = xs.take i ++ [xs.getD i 0] := by
            rw [List.getD_eq_getElem?_getD]; exact take_snoc' (by rw [Hn.out]; exact hin)
          have hm := getD_mem (xs := xs) (i := i) (by rw [Hn.out]; exact hin)
          have HN := Lib.hid (show inB (xs.getD i 0) = true → (xs.take (i + 1)).any outB = false from fun h => by
            rw [hsn, List.any_append, hr.out, List.any_cons, List.any_nil]; unfold outB; rw [h]; rfl)
          have HB := Lib.hid (show inB (xs.getD i 0) = false → xs.any outB = true from fun h => List.any_eq_true.2 ⟨_, hm, by unfold outB; rw [h]; rfl⟩)
          clear hsn hm
          generalize xs.getD i 0 = x at *
          cases hp : inB x with
          | true =>
            have H2 := Lib.hid (HN.out hp)
            rw [hp] at HV
            clear hp HN HB
            go_wp2_with (go_at_call 50; refine (HV.out _).mono ?_; rintro e w1 ⟨rfl, rfl⟩)
            go_roundg m
            case measure => omega
            case rel => exact ⟨i + 1, by go_num, by omega, rfl, H2⟩
          | false =>
            have H0 := Lib.hid (show re = 2 by rw [← HR.out, HB.out hp]; rfl)
            rw [hp] at HV
            clear hp HN HB
            go_wp2_with (go_at_call 50; refine (HV.out _).mono ?_; rintro e w1 ⟨rfl, rfl⟩)
            go_ret
            exact ⟨by rw [H0.out]; rfl, rfl⟩
set_option maxHeartbeats 1000000 in
theorem given_calls (A : Option Addr) (c : Nat) (xs : List Int) (lo hi : Int) (w : World) (hx : IntsAt w A c xs) :
    Calls Tryz.prog 32 #[.slice A xs.length c, .agg #[.int .i64 lo, .int .i64 hi]] w fun e w' => e = .returned (.int .i64 (givE xs lo hi)) ∧ Below w.heap.size w w' := by
  have HC := Lib.hid (fun w (h : IntsAt w A c xs) => ref_check_calls A c xs w h)
  have HX := Lib.hid (ints_below hx ((Below.refl _ w).alloc (Nat.le_refl _) (.cells #[.int .i64 lo, .int .i64 hi] 34)))
  have H1 := Lib.hid (fun w => value_calls lo w)
  have H2 := Lib.hid (fun w => value_calls hi w)
  have hB := Lib.hid ((Below.refl _ w).alloc (Nat.le_refl _) (.cells #[.int .i64 lo, .int .i64 hi] 34))
  clear hx
  unfold givE
  generalize serE xs = e0 at *
  generalize xs.length = n at *
  generalize inB lo = p at *
  generalize inB hi = q at *
  by_cases h0 : e0 = 0
  · subst h0
    rw [if_neg (by decide)]
    cases p with
    | false =>
      rw [if_pos (.inl rfl)]
      go_enter Tryz.func32, Tryz.ntmps32
      go_wp2_with (first | (go_at_call 19; refine (HC.out _ HX.out).mono ?_; rintro e w1 ⟨rfl, rfl⟩) | (go_at_call 50; refine (H1.out _).mono ?_; rintro e w1 ⟨rfl, rfl⟩))
      go_ret
      exact ⟨rfl, hB.out⟩
    | true =>
      cases q with
      | false =>
        rw [if_pos (.inr rfl)]
        go_enter Tryz.func32, Tryz.ntmps32
        go_wp2_with (go_at_call 19; refine (HC.out _ HX.out).mono ?_; rintro e w1 ⟨rfl, rfl⟩)
        go_wp2_with (go_at_call 50; fail)
        refine (H1.out _).mono ?_
        rintro e w1 ⟨rfl, rfl⟩
        go_wp2_with (go_at_call 50; fail)
        refine (H2.out _).mono ?_
        rintro e w1 ⟨rfl, rfl⟩
        go_wp2
        go_ret
        exact ⟨rfl, hB.out⟩
      | true =>
        rw [if_neg (by simp)]
        by_cases hlh : hi < lo
        · rw [if_pos hlh]
          go_enter Tryz.func32, Tryz.ntmps32
          go_wp2_with (go_at_call 19; refine (HC.out _ HX.out).mono ?_; rintro e w1 ⟨rfl, rfl⟩)
          go_wp2_with (go_at_call 50; fail)
          refine (H1.out _).mono ?_
          rintro e w1 ⟨rfl, rfl⟩
          go_wp2_with (go_at_call 50; fail)
          refine (H2.out _).mono ?_
          rintro e w1 ⟨rfl, rfl⟩
          go_wp2
          go_ret
          exact ⟨rfl, hB.out⟩
        · rw [if_neg hlh]
          have hlh2 : lo ≤ hi := by omega
          clear hlh
          go_enter Tryz.func32, Tryz.ntmps32
          go_wp2_with (go_at_call 19; refine (HC.out _ HX.out).mono ?_; rintro e w1 ⟨rfl, rfl⟩)
          go_wp2_with (go_at_call 50; fail)
          refine (H1.out _).mono ?_
          rintro e w1 ⟨rfl, rfl⟩
          go_wp2_with (go_at_call 50; fail)
          refine (H2.out _).mono ?_
          rintro e w1 ⟨rfl, rfl⟩
          go_wp2
          go_ret
          exact ⟨rfl, hB.out⟩
  · rw [if_pos h0]
    have hb : (e0 != 0) = true := by simpa using h0
    clear h0
    go_enter Tryz.func32, Tryz.ntmps32
    go_wp2_with (go_at_call 19; refine (HC.out _ HX.out).mono ?_; rintro e w1 ⟨rfl, rfl⟩)
    go_ret
    exact ⟨rfl, hB.out⟩
/-- Right and short. -/
def rightB (xs : List Int) : Bool := decide (1 < xs.length) && (decide (xs.length ≤ 20) && !xs.any farB)
theorem rightB_iff {xs : List Int} : rightB xs = true ↔ 1 < xs.length ∧ xs.length ≤ 20 ∧ ∀ x ∈ xs, -8000 ≤ x ∧ x ≤ 8000 := by
  unfold rightB
  simp only [Bool.and_eq_true, decide_eq_true_eq, Bool.not_eq_true', List.any_eq_false]
  constructor
  · rintro ⟨h1, h2, h3⟩
    refine ⟨h1, h2, fun x hx => ?_⟩
    have := h3 x hx
    unfold farB at this
    simp at this
    exact this
  · rintro ⟨h1, h2, h3⟩
    refine ⟨h1, h2, fun x hx => ?_⟩
    have := h3 x hx
    unfold farB
    simp; exact this
set_option maxHeartbeats 1000000 in
theorem right_calls (A : Option Addr) (c : Nat) (xs : List Int) (w : World) (hx : IntsAt w A c xs) :
    Calls Tryz.prog 31 #[.slice A xs.length c] w fun e w' => e = .returned (.bool (rightB xs)) ∧ w' = w := by
  have HC := Lib.hid (contains_farB A c xs w hx)
  have hbig := hx.big
  clear hx
  unfold rightB
  generalize xs.any farB = p at *
  generalize xs.length = n at *
  by_cases h1 : 1 < n
  · have h1' : (1 : Int) < n := by omega
    rw [decide_eq_true h1, Bool.true_and]
    by_cases h2 : n ≤ 20
    · have h2' : (n : Int) ≤ 20 := by omega
      rw [decide_eq_true h2, Bool.true_and]
      clear h1 h2
      go_enter Tryz.func31, Tryz.ntmps31
      go_wp2_with (go_at_call 47; refine (HC.out).mono ?_; rintro e w1 ⟨rfl, rfl⟩)
      go_ret
      exact ⟨rfl, rfl⟩
    · have h2' : (20 : Int) < n := by omega
      have hb : decide ((n : Int) ≤ 20) = false := decide_eq_false (by omega)
      rw [decide_eq_false h2, Bool.false_and]
      clear h1 h2
      go_enter Tryz.func31, Tryz.ntmps31
      go_wp2
      go_ret
      exact ⟨rfl, rfl⟩
  · have h1' : (n : Int) ≤ 1 := by omega
    have hb : decide ((1 : Int) < n) = false := decide_eq_false (by omega)
    rw [decide_eq_false h1, Bool.false_and]
    clear h1
    go_enter Tryz.func31, Tryz.ntmps31
    go_wp2
    go_ret
    exact ⟨rfl, rfl⟩
end Go.Proofs.YtdkfebfedfemaaaGreatDoor
set_option linter.unusedVariables false
set_option linter.unusedSimpArgs false
namespace Go.Proofs.YtdkfebfedfemaaaGreatDoor
open Go.RowKit Go.Mlab

abbrev aw : List Int := [2, 4, 4, 10]
theorem aw_ser : serE aw = 0 := by kernel_rfl
theorem aw_var : varE aw = 0 := by kernel_rfl
theorem aw_vry : vryE aw 1 13 = 0 := by kernel_rfl
theorem aw_his : hisE aw 3 3 2 = 0 := by kernel_rfl
theorem aw_giv : givE aw 1 13 = 0 := by kernel_rfl
theorem aw_spr : sprE aw 2 = 0 := by kernel_rfl
theorem aw_avg : Q (avg aw) = { data := #[53] } := by kernel_rfl
theorem aw_vari : Q (vari aw) = { data := #[49, 50] } := by kernel_rfl
theorem aw_cap : Q (capb aw 1 13) = { data := #[49, 47, 51] } := by kernel_rfl
theorem aw_cen : Q (cenb aw 1 13) = { data := #[52, 47, 50, 55] } := by kernel_rfl
theorem aw_sgn : Lib.compareInt (dist aw 1 13) 0 = 1 := by kernel_rfl
theorem aw_sort : sortZ aw = aw := by
  unfold sortZ
  exact List.mergeSort_of_pairwise (by decide)
theorem aw_q4 : Q (4 : Rat) = { data := #[52] } := by kernel_rfl
theorem aw_med : Q (med aw) = { data := #[52] } := by
  have e : med aw = 4 := by unfold med; rw [aw_sort]; rfl
  rw [e]; exact aw_q4
theorem aw_run : runsV aw 1 13 = [-3, 1] := by kernel_rfl
theorem aw_sprV : sprV aw 2 = [2, 6] := by kernel_rfl
theorem aw_sprT : sprT aw 2 = { data := #[52] } := by kernel_rfl
theorem aw_cnts : cnts 3 3 2 aw = [1, 2, 0, 1] := by kernel_rfl
theorem mean_aw (A : Option Addr) (c : Nat) (w : World) (hx : IntsAt w A c aw) (hT : Tab w) : Calls Tryz.prog 12 #[.slice A 4 c] w fun e w' => e = .returned (.tuple #[.string { data := #[53] }, .int .i64 0]) ∧ Below w.heap.size w w' := by
  have h := cap_Mean_calls A c aw w hx hT
  rw [aw_ser] at h; unfold resV at h; rw [if_pos rfl, aw_avg] at h; exact h
theorem var_aw (A : Option Addr) (c : Nat) (w : World) (hx : IntsAt w A c aw) (hT : Tab w) : Calls Tryz.prog 14 #[.slice A 4 c] w fun e w' => e = .returned (.tuple #[.string { data := #[49, 50] }, .int .i64 0]) ∧ Below w.heap.size w w' := by
  have h := cap_Var_calls A c aw w hx hT
  rw [aw_var] at h; unfold resV at h; rw [if_pos rfl, aw_vari] at h; exact h
theorem cap_aw (A : Option Addr) (c : Nat) (w : World) (hx : IntsAt w A c aw) (hT : Tab w) : Calls Tryz.prog 20 #[.slice A 4 c, .agg #[.int .i64 1, .int .i64 13]] w fun e w' => e = .returned (.tuple #[.string { data := #[49, 47, 51] }, .int .i64 0]) ∧ Below w.heap.size w w' := by
  have h := cap_Cap_calls A c aw 1 13 w hx hT
  rw [aw_vry] at h; unfold resV at h; rw [if_pos rfl, aw_cap] at h; exact h
theorem cen_aw (A : Option Addr) (c : Nat) (w : World) (hx : IntsAt w A c aw) (hT : Tab w) : Calls Tryz.prog 22 #[.slice A 4 c, .agg #[.int .i64 1, .int .i64 13]] w fun e w' => e = .returned (.tuple #[.string { data := #[52, 47, 50, 55] }, .int .i64 1, .int .i64 0]) ∧ Below w.heap.size w w' := by
  have h := cap_Cen_calls A c aw 1 13 w hx hT
  rw [aw_vry] at h; unfold cenV at h; rw [if_pos rfl, if_pos rfl, aw_cen, aw_sgn] at h; exact h
theorem med_aw (A : Option Addr) (c : Nat) (w : World) (hx : IntsAt w A c aw) (hT : Tab w) : Calls Tryz.prog 16 #[.slice A 4 c] w fun e w' => e = .returned (.tuple #[.string { data := #[52] }, .int .i64 0]) ∧ Below w.heap.size w w' := by
  have h := median_calls A c aw w hx hT
  rw [aw_ser] at h; unfold resV at h; rw [if_pos rfl, aw_med] at h; exact h
/-- A short list behind a slice, cell by cell. -/
def TwoAt (w : World) (b o c : Nat) (x y : Int) : Prop := 2 ≤ c ∧ w.cell? ⟨b, o, none⟩ = some (.int .i64 x) ∧ w.cell? ⟨b, o + 1, none⟩ = some (.int .i64 y) ∧ b < w.heap.size
theorem two_below {w w1 : World} {b o c : Nat} {x y : Int} (h : TwoAt w b o c x y) (k : Below w.heap.size w w1) : TwoAt w1 b o c x y :=
  ⟨h.1, (k.cell (p := ⟨b, o, none⟩) h.2.2.2).trans h.2.1, (k.cell (p := ⟨b, o + 1, none⟩) h.2.2.2).trans h.2.2.1, Nat.lt_of_lt_of_le h.2.2.2 k.size⟩
theorem two_ints {w : World} {A : Option Addr} {c : Nat} {x y : Int} (h : IntsAt w A c [x, y]) : ∃ b o, A = some ⟨b, o, none⟩ ∧ TwoAt w b o c x y := by
  rcases h.at_ with h0 | ⟨b, o, e, hb, hc⟩
  · cases h0
  · exact ⟨b, o, e, h.cap, hc 0 (by simp), hc 1 (by simp), hb⟩
theorem his_aw (A : Option Addr) (c : Nat) (w : World) (hx : IntsAt w A c aw) : Calls Tryz.prog 24 #[.slice A 4 c, .int .i64 3, .int .i64 3, .int .i64 2] w fun e w' => ∃ b, e = .returned (.tuple #[.slice (some ⟨b, 1, none⟩) 2 3, .int .i64 1, .int .i64 1, .int .i64 0]) ∧ TwoAt w' b 1 3 2 0 ∧ Below w.heap.size w w' := by
  refine (his_calls A c aw 3 3 2 w hx).mono ?_
  rintro e w' ⟨_, h, hB⟩
  obtain ⟨b, he, hb, hr⟩ := h aw_his
  rw [show (2 : Int).toNat = 2 from rfl, aw_cnts] at hr
  refine ⟨b, ?_, ⟨by decide, intRow_cell hr (i := 1) (by decide), intRow_cell hr (i := 2) (by decide), intRow_lt hr⟩, hB⟩
  rw [he]; rfl
theorem run_aw (A : Option Addr) (c : Nat) (w : World) (hx : IntsAt w A c aw) : Calls Tryz.prog 27 #[.slice A 4 c, .agg #[.int .i64 1, .int .i64 13]] w fun e w' => ∃ b o c', e = .returned (.tuple #[.slice (some ⟨b, o, none⟩) 2 c', .int .i64 0]) ∧ TwoAt w' b o c' (-3) 1 ∧ Below w.heap.size w w' := by
  refine (runs_all_calls A c aw 1 13 w hx).mono ?_
  rintro e w' ⟨A', c', he, hI, hB⟩
  rw [aw_run] at he hI
  rw [aw_giv] at he
  obtain ⟨b, o, rfl, h⟩ := two_ints hI
  exact ⟨b, o, c', he, h, hB⟩
theorem spr_aw (A : Option Addr) (c : Nat) (w : World) (hx : IntsAt w A c aw) (hT : Tab w) : Calls Tryz.prog 29 #[.slice A 4 c, .int .i64 2] w fun e w' => ∃ b o c', e = .returned (.tuple #[.slice (some ⟨b, o, none⟩) 2 c', .string { data := #[52] }, .int .i64 0]) ∧ TwoAt w' b o c' 2 6 ∧ Below w.heap.size w w' := by
  refine (spread_calls A c aw 2 w hx hT).mono ?_
  rintro e w' ⟨A', c', he, hI, hB⟩
  rw [aw_sprV] at he hI
  rw [aw_spr, aw_sprT] at he
  obtain ⟨b, o, rfl, h⟩ := two_ints hI
  exact ⟨b, o, c', he, h, hB⟩
/-- slices.Equal at a short list and a new one with the same cells. -/
theorem eq_two (b o c b2 : Nat) (x y : Int) (w : World) (h : TwoAt w b o c x y) (h0 : w.cell? ⟨b2, 0, none⟩ = some (.int .i64 x)) (h1 : w.cell? ⟨b2, 1, none⟩ = some (.int .i64 y)) :
    Calls Tryz.prog 35 #[.slice (some ⟨b, o, none⟩) 2 c, .slice (some ⟨b2, 0, none⟩) 2 2] w fun e w' => e = .returned (.bool true) ∧ ∃ q, w' = w.drewN q := by
  refine (slices_Equal_int b o 2 c b2 0 2 2 [x, y] [x, y] w (by simp) (by simp) (by omega) (by omega) ?_ ?_).mono ?_
  · intro j hj
    simp only [List.length_cons, List.length_nil, Nat.zero_add, Nat.reduceAdd] at hj
    rcases j with _ | _ | j
    · exact h.2.1
    · exact h.2.2.1
    · omega
  · intro j hj
    simp only [List.length_cons, List.length_nil, Nat.zero_add, Nat.reduceAdd] at hj
    rcases j with _ | _ | j
    · exact h0
    · exact h1
    · omega
  · rintro e w' ⟨rfl, hq⟩
    exact ⟨by simp, hq⟩
theorem eq_new (b o c : Nat) (x y : Int) (w : World) (h : TwoAt w b o c x y) :
    Calls Tryz.prog 35 #[.slice (some ⟨b, o, none⟩) 2 c, .slice (some ⟨w.heap.size, 0, none⟩) 2 2] (w.alloc (.cells #[.int .i64 x, .int .i64 y] 3)) fun e w' => e = .returned (.bool true) ∧ Below w.heap.size w w' := by
  have hA : Below w.heap.size w (w.alloc (.cells #[.int .i64 x, .int .i64 y] 3)) := (Below.refl _ w).alloc (Nat.le_refl _) _
  refine (eq_two b o c w.heap.size x y _ (two_below h hA) (by rw [cell_of_row _ _ _ _ _ _ (alloc_new w _)]; rfl) (by rw [cell_of_row _ _ _ _ _ _ (alloc_new w _)]; rfl)).mono ?_
  rintro e w' ⟨rfl, q, rfl⟩
  exact ⟨rfl, pw_below_drewN hA q⟩
/-- What holds all through awake. -/
structure AwW (w W : World) : Prop where
  below : Below w.heap.size w W
  ints : IntsAt W (some ⟨w.heap.size, 0, none⟩) 4 aw
  lo : W.cell? ⟨w.heap.size + 1, 0, none⟩ = some (.int .i64 1)
  hi : W.cell? ⟨w.heap.size + 1, 1, none⟩ = some (.int .i64 13)
  lt : w.heap.size + 1 < W.heap.size
theorem AwW.next {w W W' : World} (h : AwW w W) (k : Below W.heap.size W W') : AwW w W' :=
  ⟨below_below h.below h.below.size k, ints_below h.ints k, (k.cell (p := ⟨w.heap.size + 1, 0, none⟩) h.lt).trans h.lo, (k.cell (p := ⟨w.heap.size + 1, 1, none⟩) h.lt).trans h.hi, Nat.lt_of_lt_of_le h.lt k.size⟩
theorem AwW.new (w : World) : AwW w ((w.alloc (.cells #[.int .i64 2, .int .i64 4, .int .i64 4, .int .i64 10] 3)).alloc (.cells #[.int .i64 1, .int .i64 13] 34)) := by
  have h1 := alloc_new w (.cells #[.int .i64 2, .int .i64 4, .int .i64 4, .int .i64 10] 3)
  have h2 := alloc_new (w.alloc (.cells #[.int .i64 2, .int .i64 4, .int .i64 4, .int .i64 10] 3)) (.cells #[.int .i64 1, .int .i64 13] 34)
  rw [World.size_alloc] at h2
  have h3 := (Below.heap_alloc (w.alloc (.cells #[.int .i64 2, .int .i64 4, .int .i64 4, .int .i64 10] 3)) (.cells #[.int .i64 1, .int .i64 13] 34) w.heap.size (by simp)).trans h1
  refine ⟨((Below.refl _ w).alloc (Nat.le_refl _) _).alloc (by simp) _, ⟨by decide, by decide, .inr ⟨_, _, rfl, by simp; omega, fun j hj => ?_⟩⟩, ?_, ?_, by simp⟩
  · rw [cell_of_row _ _ _ _ _ _ h3]
    simp only [aw, List.length_cons, List.length_nil, Nat.zero_add, Nat.reduceAdd] at hj
    rcases j with _ | _ | _ | _ | j
    · rfl
    · rfl
    · rfl
    · rfl
    · omega
  · rw [cell_of_row _ _ _ _ _ _ h2]; rfl
  · rw [cell_of_row _ _ _ _ _ _ h2]; rfl
theorem AwW.tab {w W : World} (h : AwW w W) (hT : Tab w) : Tab W := tab_below hT h.below
set_option maxRecDepth 100000 in
set_option maxHeartbeats 4000000 in
theorem awake_calls (w : World) (hT : Tab w) :
    Calls Tryz.prog 11 #[] w fun e w' => e = .returned (.bool true) ∧ Below w.heap.size w w' := by
  have HT := Lib.hid hT
  have H0 := Lib.hid (AwW.new w)
  clear hT
  go_enter Tryz.func11, Tryz.ntmps11
  go_wp2_with (go_at_call 12; fail)
  refine (mean_aw _ _ _ H0.out.ints (H0.out.tab HT.out)).mono ?_
  rintro e w1 ⟨rfl, hw1⟩
  have H1 := Lib.hid (H0.out.next hw1)
  clear H0 hw1
  go_wp2_with (go_at_call 14; fail)
  refine (var_aw _ _ _ H1.out.ints (H1.out.tab HT.out)).mono ?_
  rintro e w2 ⟨rfl, hw2⟩
  have H2 := Lib.hid (H1.out.next hw2)
  clear H1 hw2
  have l2 := H2.out.lo
  have k2 := H2.out.hi
  go_wp2_with (go_at_call 20; fail)
  refine (cap_aw _ _ _ H2.out.ints (H2.out.tab HT.out)).mono ?_
  rintro e w3 ⟨rfl, hw3⟩
  have H3 := Lib.hid (H2.out.next hw3)
  clear H2 hw3 l2 k2
  have l3 := H3.out.lo
  have k3 := H3.out.hi
  go_wp2_with (go_at_call 22; fail)
  refine (cen_aw _ _ _ H3.out.ints (H3.out.tab HT.out)).mono ?_
  rintro e w4 ⟨rfl, hw4⟩
  have H4 := Lib.hid (H3.out.next hw4)
  clear H3 hw4 l3 k3
  go_wp2_with (go_at_call 16; fail)
  refine (med_aw _ _ _ H4.out.ints (H4.out.tab HT.out)).mono ?_
  rintro e w5 ⟨rfl, hw5⟩
  have H5 := Lib.hid (H4.out.next hw5)
  clear H4 hw5
  go_wp2_with (go_at_call 24; fail)
  refine (his_aw _ _ _ H5.out.ints).mono ?_
  rintro e w6 ⟨b1, rfl, hb1, hw6⟩
  have H6 := Lib.hid (H5.out.next hw6)
  have B6 := Lib.hid hb1
  clear H5 hw6 hb1
  have l6 := H6.out.lo
  have k6 := H6.out.hi
  go_wp2_with (go_at_call 27; fail)
  refine (run_aw _ _ _ H6.out.ints).mono ?_
  rintro e w7 ⟨b2, o2, c2, rfl, hb2, hw7⟩
  have H7 := Lib.hid (H6.out.next hw7)
  have B7 := Lib.hid (And.intro (two_below B6.out hw7) hb2)
  clear H6 B6 hw7 hb2 l6 k6
  go_wp2_with (go_at_call 29; fail)
  refine (spr_aw _ _ _ H7.out.ints (H7.out.tab HT.out)).mono ?_
  rintro e w8 ⟨b3, o3, c3, rfl, hb3, hw8⟩
  have H8 := Lib.hid (H7.out.next hw8)
  have B8 := Lib.hid (And.intro (two_below B7.out.1 hw8) (And.intro (two_below B7.out.2 hw8) hb3))
  clear H7 B7 hw8 hb3
  go_wp2_with (go_at_call 35; fail)
  refine (eq_new _ _ _ _ _ _ B8.out.1).mono ?_
  rintro e w9 ⟨rfl, hw9⟩
  have B9 := Lib.hid (And.intro (two_below B8.out.2.1 hw9) (two_below B8.out.2.2 hw9))
  have H9 := Lib.hid (H8.out.next hw9)
  clear H8 B8 hw9
  go_wp2_with (go_at_call 35; fail)
  refine (eq_new _ _ _ _ _ _ B9.out.1).mono ?_
  rintro e w10 ⟨rfl, hw10⟩
  have B10 := Lib.hid (two_below B9.out.2 hw10)
  have H10 := Lib.hid (H9.out.next hw10)
  clear H9 B9 hw10
  go_wp2_with (go_at_call 35; fail)
  refine (eq_new _ _ _ _ _ _ B10.out).mono ?_
  rintro e w11 ⟨rfl, hw11⟩
  have H11 := Lib.hid (H10.out.next hw11)
  clear H10 B10 hw11
  go_wp2
  go_ret
  exact ⟨rfl, H11.out.below⟩
end Go.Proofs.YtdkfebfedfemaaaGreatDoor
