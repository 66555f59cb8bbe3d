/- Series of ints: where they lie; slices.ContainsFunc; capability's Check, both; sums. -/
import Derived.Test.YtdkfebfedfemaaaGreatDoorR4
set_option linter.unusedVariables false
set_option linter.unusedSimpArgs false
namespace Go.Proofs.YtdkfebfedfemaaaGreatDoor
open Go.RowKit Go.Mlab

/-- A list of ints behind a slice's address. -/
structure IntsAt (w : World) (A : Option Addr) (c : Nat) (xs : List Int) : Prop where
  cap : xs.length ≤ c
  big : xs.length ≤ 4611686018427387904
  at_ : xs = [] ∨ ∃ b o, A = some ⟨b, o, none⟩ ∧ b < w.heap.size ∧ ∀ j, j < xs.length → w.cell? ⟨b, o + j, none⟩ = some (.int .i64 (xs.getD j 0))
theorem ints_below {w w1 : World} {A : Option Addr} {c : Nat} {xs : List Int} (h : IntsAt w A c xs) (k : Below w.heap.size w w1) : IntsAt w1 A c xs :=
  ⟨h.cap, h.big, h.at_.imp id (fun ⟨b, o, e, hb, hc⟩ => ⟨b, o, e, Nat.lt_of_lt_of_le hb k.size, fun j hj => (k.cell (p := ⟨b, o + j, none⟩) hb).trans (hc j hj)⟩)⟩
theorem ints_get {w : World} {A : Option Addr} {c : Nat} {xs : List Int} (h : IntsAt w A c xs) {i : Nat} (hi : i < xs.length) : ∃ b o, A = some ⟨b, o, none⟩ ∧ w.cell? ⟨b, o + i, none⟩ = some (.int .i64 (xs.getD i 0)) := by
  rcases h.at_ with h | ⟨b, o, e, _, hc⟩
  · rw [h] at hi; simp at hi
  · exact ⟨b, o, e, hc i hi⟩
theorem getD_mem {xs : List Int} {i : Nat} (h : i < xs.length) : xs.getD i 0 ∈ xs := by
  rw [List.getD_eq_getElem?_getD, List.getElem?_eq_getElem h]; exact List.getElem_mem _
theorem drop_cons {xs : List Int} {i : Nat} (h : i < xs.length) : xs.drop i = xs.getD i 0 :: xs.drop (i + 1) := by
  rw [List.drop_eq_getElem_cons h, List.getD_eq_getElem?_getD, List.getElem?_eq_getElem h]; rfl
def inB (n : Int) : Bool := decide (-1048576 ≤ n) && decide (n ≤ 1048576)
theorem inB_iff {n : Int} : inB n = true ↔ -1048576 ≤ n ∧ n ≤ 1048576 := by unfold inB; simp
theorem in_calls (n : Int) (w : World) : Calls Tryz.prog 49 #[.int .i64 n] w fun e w' => e = .returned (.bool (inB n)) ∧ w' = w := by
  unfold inB
  by_cases h1 : -1048576 ≤ n
  · rw [show (decide (-1048576 ≤ n) && decide (n ≤ 1048576)) = decide (n ≤ 1048576) by simp [h1]]
    go_enter Tryz.func49, Tryz.ntmps49
    go_wp2
    go_ret
    exact ⟨rfl, rfl⟩
  · rw [show (decide (-1048576 ≤ n) && decide (n ≤ 1048576)) = false by simp; omega]
    go_enter Tryz.func49, Tryz.ntmps49
    go_wp2
    go_ret
    exact ⟨rfl, rfl⟩
def outB (n : Int) : Bool := !inB n
theorem out_calls (n : Int) (w : World) : Calls Tryz.prog 48 #[.int .i64 n] w fun e w' => e = .returned (.bool (outB n)) ∧ w' = w := by
  have H := Lib.hid (in_calls n w)
  unfold outB
  generalize inB n = b at *
  go_enter Tryz.func48, Tryz.ntmps48
  go_wp2_with (go_at_call 49; refine (H.out).mono ?_; rintro e w1 ⟨rfl, rfl⟩)
  go_ret
  exact ⟨rfl, rfl⟩
def farB (n : Int) : Bool := decide (n < -8000) || decide (8000 < n)
theorem far_calls (n : Int) (w : World) : Calls Tryz.prog 66 #[.int .i64 n] w fun e w' => e = .returned (.bool (farB n)) ∧ w' = w := by
  unfold farB
  by_cases h1 : n < -8000
  · rw [show (decide (n < -8000) || decide (8000 < n)) = true by simp [h1]]
    go_enter Tryz.func66, Tryz.ntmps66
    go_wp2
    go_ret
    exact ⟨rfl, rfl⟩
  · rw [show (decide (n < -8000) || decide (8000 < n)) = decide (8000 < n) by rw [Bool.eq_iff_iff]; simp; omega]
    go_enter Tryz.func66, Tryz.ntmps66
    go_wp2
    go_ret
    exact ⟨rfl, rfl⟩
/-- The first place from i on at which p holds, or -1. -/
def idxF (p : Int → Bool) : Nat → List Int → Int
  | _, [] => -1
  | i, x :: r => if p x then i else idxF p (i + 1) r
theorem idxF_any (p : Int → Bool) : ∀ (l : List Int) (i : Nat), decide (0 ≤ idxF p i l) = l.any p
  | [], i => rfl
  | x :: r, i => by
    unfold idxF
    rw [List.any_cons]
    cases h : p x with
    | true => simp
    | false => simpa using idxF_any p r (i + 1)
set_option maxHeartbeats 1000000 in
theorem idx_outB (A : Option Addr) (c : Nat) (xs : List Int) (w : World) (hx : IntsAt w A c xs) :
    Calls Tryz.prog 84 #[.slice A xs.length c, .func (.func 48) #[] #[]] w fun e w' => e = .returned (.int .i64 (idxF outB 0 xs)) ∧ w' = w := by
  have hn2 := hx.big
  have HX := Lib.hid hx
  have hcap := hx.cap
  clear hx
  obtain ⟨n, hln⟩ : ∃ n, xs.length = n := ⟨_, rfl⟩
  rw [hln] at hn2 hcap ⊢
  have Hn := Lib.hid hln
  clear hln
  go_enter Tryz.func84, Tryz.ntmps84
  go_wp2
  go_loopg [8] n (fun k v8 wr => ∃ i : Nat, v8 = .int .i64 i ∧ k + i = n ∧ wr = w ∧ Hid (idxF outB 0 xs = idxF outB i (xs.drop i)))
  case atStart => exact ⟨0, rfl, by omega, rfl, Lib.hid rfl⟩
  case round =>
    obtain ⟨i, rfl, hi, rfl, hr⟩ := hrel
    cases gk with
    | zero =>
      obtain rfl : i = n := by omega
      clear hi
      go_wp2
      go_ret
      refine ⟨?_, rfl⟩
      rw [hr.out, ← Hn.out, List.drop_length]; rfl
    | succ m =>
      have hin : i < n := by omega
      have hin2 : (i : Int) < n := by omega
      obtain ⟨b, o, rfl, hc⟩ := ints_get HX.out (i := i) (by rw [Hn.out]; exact hin)
      have hd := drop_cons (xs := xs) (i := i) (by rw [Hn.out]; exact hin)
      have HC := Lib.hid (out_calls (xs.getD i 0))
      have hN := Lib.hid (show idxF outB i (xs.drop i) = if outB (xs.getD i 0) then (i : Int) else idxF outB (i + 1) (xs.drop (i + 1)) by rw [hd]; rfl)
      clear hd
      generalize xs.getD i 0 = x at *
      cases hp : outB x with
      | true =>
        rw [hp] at HC hN
        clear hp
        go_wp2_with (go_at_call 48; refine (HC.out _).mono ?_; rintro e w1 ⟨rfl, rfl⟩)
        go_ret
        refine ⟨?_, rfl⟩
        rw [hr.out, hN.out]; rfl
      | false =>
        rw [hp] at HC hN
        clear hp
        go_wp2_with (go_at_call 48; refine (HC.out _).mono ?_; rintro e w1 ⟨rfl, rfl⟩)
        go_roundg m
        case measure => omega
        case rel => exact ⟨i + 1, by go_num, by omega, rfl, Lib.hid (by rw [hr.out, hN.out]; rfl)⟩
theorem contains_outB (A : Option Addr) (c : Nat) (xs : List Int) (w : World) (hx : IntsAt w A c xs) :
    Calls Tryz.prog 47 #[.slice A xs.length c, .func (.func 48) #[] #[]] w fun e w' => e = .returned (.bool (xs.any outB)) ∧ w' = w := by
  have H := Lib.hid (idx_outB A c xs w hx)
  have e := idxF_any outB xs 0
  clear hx
  generalize idxF outB 0 xs = v at *
  rw [← e]
  clear e
  go_enter Tryz.func47, Tryz.ntmps47
  go_wp2_with (go_at_call 84; refine (H.out).mono ?_; rintro e w1 ⟨rfl, rfl⟩)
  go_ret
  exact ⟨rfl, rfl⟩
set_option maxHeartbeats 1000000 in
theorem idx_farB (A : Option Addr) (c : Nat) (xs : List Int) (w : World) (hx : IntsAt w A c xs) :
    Calls Tryz.prog 84 #[.slice A xs.length c, .func (.func 66) #[] #[]] w fun e w' => e = .returned (.int .i64 (idxF farB 0 xs)) ∧ w' = w := by
  have hn2 := hx.big
  have HX := Lib.hid hx
  have hcap := hx.cap
  clear hx
  obtain ⟨n, hln⟩ : ∃ n, xs.length = n := ⟨_, rfl⟩
  rw [hln] at hn2 hcap ⊢
  have Hn := Lib.hid hln
  clear hln
  go_enter Tryz.func84, Tryz.ntmps84
  go_wp2
  go_loopg [8] n (fun k v8 wr => ∃ i : Nat, v8 = .int .i64 i ∧ k + i = n ∧ wr = w ∧ Hid (idxF farB 0 xs = idxF farB i (xs.drop i)))
  case atStart => exact ⟨0, rfl, by omega, rfl, Lib.hid rfl⟩
  case round =>
    obtain ⟨i, rfl, hi, rfl, hr⟩ := hrel
    cases gk with
    | zero =>
      obtain rfl : i = n := by omega
      clear hi
      go_wp2
      go_ret
      refine ⟨?_, rfl⟩
      rw [hr.out, ← Hn.out, List.drop_length]; rfl
    | succ m =>
      have hin : i < n := by omega
      have hin2 : (i : Int) < n := by omega
      obtain ⟨b, o, rfl, hc⟩ := ints_get HX.out (i := i) (by rw [Hn.out]; exact hin)
      have hd := drop_cons (xs := xs) (i := i) (by rw [Hn.out]; exact hin)
      have HC := Lib.hid (far_calls (xs.getD i 0))
      have hN := Lib.hid (show idxF farB i (xs.drop i) = if farB (xs.getD i 0) then (i : Int) else idxF farB (i + 1) (xs.drop (i + 1)) by rw [hd]; rfl)
      clear hd
      generalize xs.getD i 0 = x at *
      cases hp : farB x with
      | true =>
        rw [hp] at HC hN
        clear hp
        go_wp2_with (go_at_call 66; refine (HC.out _).mono ?_; rintro e w1 ⟨rfl, rfl⟩)
        go_ret
        refine ⟨?_, rfl⟩
        rw [hr.out, hN.out]; rfl
      | false =>
        rw [hp] at HC hN
        clear hp
        go_wp2_with (go_at_call 66; refine (HC.out _).mono ?_; rintro e w1 ⟨rfl, rfl⟩)
        go_roundg m
        case measure => omega
        case rel => exact ⟨i + 1, by go_num, by omega, rfl, Lib.hid (by rw [hr.out, hN.out]; rfl)⟩
theorem contains_farB (A : Option Addr) (c : Nat) (xs : List Int) (w : World) (hx : IntsAt w A c xs) :
    Calls Tryz.prog 47 #[.slice A xs.length c, .func (.func 66) #[] #[]] w fun e w' => e = .returned (.bool (xs.any farB)) ∧ w' = w := by
  have H := Lib.hid (idx_farB A c xs w hx)
  have e := idxF_any farB xs 0
  clear hx
  generalize idxF farB 0 xs = v at *
  rw [← e]
  clear e
  go_enter Tryz.func47, Tryz.ntmps47
  go_wp2_with (go_at_call 84; refine (H.out).mono ?_; rintro e w1 ⟨rfl, rfl⟩)
  go_ret
  exact ⟨rfl, rfl⟩

/-- The number of the error of a series. -/
def serE (xs : List Int) : Int := if xs = [] then 13 else if 4096 < xs.length then 5 else if xs.any outB then 2 else 0
theorem cap_check_calls (A : Option Addr) (c : Nat) (xs : List Int) (w : World) (hx : IntsAt w A c xs) :
    Calls Tryz.prog 18 #[.slice A xs.length c] w fun e w' => e = .returned (.int .i64 (serE xs)) ∧ w' = w := by
  have H := Lib.hid (contains_outB A c xs w hx)
  have hb := hx.big
  clear hx
  unfold serE
  have h0 : xs = [] ↔ xs.length = 0 := List.length_eq_zero_iff.symm
  generalize xs.any outB = b at *
  by_cases h1 : xs = []
  · rw [if_pos h1]
    have hl := h0.1 h1
    clear h0 h1
    rw [hl] at H ⊢
    go_enter Tryz.func18, Tryz.ntmps18
    go_wp2
    go_ret
    exact ⟨rfl, rfl⟩
  · rw [if_neg h1]
    have hl : xs.length ≠ 0 := fun h => h1 (h0.2 h)
    clear h0 h1
    generalize xs.length = n at *
    have hl1 : ((n : Int) == 0) = false := by rw [beq_eq_false_iff_ne]; omega
    by_cases h2 : 4096 < n
    · rw [if_pos h2]
      have h3 : 4096 < (n : Int) := by omega
      go_enter Tryz.func18, Tryz.ntmps18
      go_wp2
      go_ret
      exact ⟨rfl, rfl⟩
    · rw [if_neg h2]
      have h3 : ¬ 4096 < (n : Int) := by omega
      cases b with
      | true =>
        rw [if_pos rfl]
        go_enter Tryz.func18, Tryz.ntmps18
        go_wp2_with (go_at_call 47; refine (H.out).mono ?_; rintro e w1 ⟨rfl, rfl⟩)
        go_ret
        exact ⟨rfl, rfl⟩
      | false =>
        rw [if_neg (by decide)]
        go_enter Tryz.func18, Tryz.ntmps18
        go_wp2_with (go_at_call 47; refine (H.out).mono ?_; rintro e w1 ⟨rfl, rfl⟩)
        go_ret
        exact ⟨rfl, rfl⟩
end Go.Proofs.YtdkfebfedfemaaaGreatDoor
