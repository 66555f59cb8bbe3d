/- capability: mean, Mean, variance, Variance. -/
import Derived.Test.YtdkfebfedfemaaaGreatDoorK2
set_option linter.unusedVariables false
set_option linter.unusedSimpArgs false
namespace Go.Proofs.YtdkfebfedfemaaaGreatDoor
open Go.RowKit Go.Mlab

def avg (xs : List Int) : Rat := Rat.divInt (isum xs) xs.length
theorem serE_ok {xs : List Int} (h : serE xs = 0) : xs ≠ [] ∧ xs.length ≤ 4096 ∧ ∀ x ∈ xs, -1048576 ≤ x ∧ x ≤ 1048576 := by
  unfold serE at h
  split at h
  · cases h
  · rename_i h0
    split at h
    · cases h
    · rename_i h1
      split at h
      · cases h
      · rename_i h2
        refine ⟨h0, by omega, fun x hx => ?_⟩
        have h3 : xs.any outB = false := by simpa using h2
        have h4 := List.any_eq_false.1 h3 x hx
        unfold outB at h4
        exact inB_iff.1 (by simpa using h4)
theorem tame_of {xs : List Int} (h : serE xs = 0) : Tame xs :=
  ⟨(serE_ok h).2.1, fun x hx => by have := (serE_ok h).2.2 x hx; omega⟩
theorem tame_isum {xs : List Int} (h : Tame xs) : -17179869184 ≤ isum xs ∧ isum xs ≤ 17179869184 := by
  have := tame_sum h xs.length
  rw [List.take_length] at this; exact this
theorem cap_mean_calls (A : Option Addr) (c : Nat) (xs : List Int) (w : World) (hx : IntsAt w A c xs) (ht : Tame xs) (h0 : xs ≠ []) (hT : Tab w) :
    Calls Tryz.prog 41 #[.slice A xs.length c] w fun e w' => e = .returned (.tuple #[.string (Q (avg xs)), .int .i64 0]) ∧ Below w.heap.size w w' := by
  have HS := Lib.hid (cap_sum_calls A c xs w hx ht)
  have hs := tame_isum ht
  have hl := ht.1
  have hl0 : xs.length ≠ 0 := fun h => h0 (List.length_eq_zero_iff.1 h)
  have HO := Lib.hid (rat_of_calls (isum xs) xs.length w (by omega) (by omega) (by omega) hT)
  unfold avg
  clear hx ht h0 hT
  generalize Q (Rat.divInt (isum xs) xs.length) = out at *
  generalize isum xs = s at *
  generalize xs.length = n at *
  go_enter Tryz.func41, Tryz.ntmps41
  go_wp2_with (go_at_call 57; refine (HS.out).mono ?_; rintro e w1 ⟨rfl, rfl⟩)
  go_wp2_with (go_at_call 45; refine (HO.out).mono ?_; rintro e w2 ⟨rfl, hw⟩)
  go_ret2
  exact ⟨rfl, hw⟩
/-- A result that is a number's text and an error. -/
def resV (e : Int) (r : Rat) : Value := .tuple #[.string (if e = 0 then Q r else { data := #[] }), .int .i64 e]
theorem cap_Mean_calls (A : Option Addr) (c : Nat) (xs : List Int) (w : World) (hx : IntsAt w A c xs) (hT : Tab w) :
    Calls Tryz.prog 12 #[.slice A xs.length c] w fun e w' => e = .returned (resV (serE xs) (avg xs)) ∧ Below w.heap.size w w' := by
  have HC := Lib.hid (cap_check_calls A c xs w hx)
  have HM := Lib.hid (fun h => cap_mean_calls A c xs w hx (tame_of h) (serE_ok h).1 hT)
  clear hx hT
  unfold resV
  generalize Q (avg xs) = out at *
  generalize serE xs = e0 at *
  generalize xs.length = n at *
  by_cases h0 : e0 = 0
  · subst h0
    rw [if_pos rfl]
    have HM2 := Lib.hid (HM.out rfl)
    go_enter Tryz.func12, Tryz.ntmps12
    go_wp2_with (go_at_call 18; refine (HC.out).mono ?_; rintro e w1 ⟨rfl, rfl⟩)
    go_wp2_with (go_at_call 41; refine (HM2.out).mono ?_; rintro e w2 ⟨rfl, hw⟩)
    go_ret2
    exact ⟨rfl, hw⟩
  · rw [if_neg h0]
    have hb : (e0 != 0) = true := by simpa using h0
    clear HM h0
    go_enter Tryz.func12, Tryz.ntmps12
    go_wp2_with (go_at_call 18; refine (HC.out).mono ?_; rintro e w1 ⟨rfl, rfl⟩)
    go_ret2
    exact ⟨rfl, Below.refl _ _⟩
theorem fits_big {z : Int} (h : z.natAbs < 10 ^ 100) : fits z = true := by
  rw [fits_lt]
  exact Nat.lt_of_lt_of_le h (pow_le_LIM (by decide))
theorem times_w_calls (a b : Int) (w : World) (ha : fits a = true) (hb : fits b = true) (hab : fits (a * b) = true) (ht : Tab w) :
    Calls Tryz.prog 78 #[.string (T a), .string (T b)] w fun e w' => e = .returned (.string (T (a * b))) ∧ Below w.heap.size w w' := by
  have H := Lib.hid (mul_calls a b w ha hb ht)
  unfold lim at H
  rw [limT_ok hab, limE_ok hab] at H
  clear ha hb hab ht
  generalize T (a * b) = u at *
  generalize T a = s at *
  generalize T b = t at *
  go_enter Tryz.func78, Tryz.ntmps78
  go_wp2_with (go_at_call 107; refine (H.out).mono ?_; rintro e w1 ⟨rfl, hw⟩)
  go_ret
  exact ⟨rfl, hw⟩
theorem plus_w_calls (a b : Int) (w : World) (ha : fits a = true) (hb : fits b = true) (hab : fits (a + b) = true) (ht : Tab w) :
    Calls Tryz.prog 80 #[.string (T a), .string (T b)] w fun e w' => e = .returned (.string (T (a + b))) ∧ Below w.heap.size w w' := by
  have H := Lib.hid (add_calls a b w ha hb ht)
  unfold lim at H
  rw [limT_ok hab, limE_ok hab] at H
  clear ha hb hab ht
  generalize T (a + b) = u at *
  generalize T a = s at *
  generalize T b = t at *
  go_enter Tryz.func80, Tryz.ntmps80
  go_wp2_with (go_at_call 113; refine (H.out).mono ?_; rintro e w1 ⟨rfl, hw⟩)
  go_ret
  exact ⟨rfl, hw⟩
theorem sq_calls (n : Int) (w : World) (hn : -4194304 ≤ n ∧ n ≤ 4194304) (ht : Tab w) :
    Calls Tryz.prog 77 #[.int .i64 n] w fun e w' => e = .returned (.string (T (n * n))) ∧ Below w.heap.size w w' := by
  have hT := Lib.hid ht
  have HO := Lib.hid (fun w h => of_calls n (by omega) (by omega) w h)
  have hb : n.natAbs * n.natAbs ≤ 4194304 * 4194304 := Nat.mul_le_mul (by omega) (by omega)
  have hab : (n * n).natAbs = n.natAbs * n.natAbs := Int.natAbs_mul n n
  have HM := Lib.hid (fun w h => times_w_calls n n w (fits64 (by omega) (by omega)) (fits64 (by omega) (by omega)) (fits64 (n := n * n) (by omega) (by omega)) h)
  clear hn ht hb hab
  generalize T (n * n) = u at *
  generalize T n = s at *
  go_enter Tryz.func77, Tryz.ntmps77
  go_wp2_with (go_at_call 79; fail)
  refine (HO.out _ hT.out).mono ?_
  rintro e w1 ⟨rfl, hw1⟩
  go_wp2_with (go_at_call 79; fail)
  refine (HO.out _ (tab_below hT.out hw1)).mono ?_
  rintro e w2 ⟨rfl, hw2⟩
  have hB := below_below hw1 hw1.size hw2
  go_wp2_with (go_at_call 78; refine (HM.out _ (tab_below hT.out hB)).mono ?_; rintro e w3 ⟨rfl, hw3⟩)
  go_ret
  exact ⟨rfl, below_below hB hB.size hw3⟩
def isq (xs : List Int) : Int := isum (xs.map fun x => x * x)
theorem isq_take {xs : List Int} (h : Tame xs) (i : Nat) : 0 ≤ isq (xs.take i) ∧ isq (xs.take i) ≤ 4096 * 17592186044416 := by
  unfold isq
  have key : ∀ l : List Int, (∀ x ∈ l, -4194304 ≤ x ∧ x ≤ 4194304) → 0 ≤ isum (l.map fun x => x * x) ∧ isum (l.map fun x => x * x) ≤ l.length * 17592186044416 := by
    intro l
    induction l with
    | nil => intro _; simp [isum]
    | cons x r ih =>
      intro h
      have h1 := ih (fun x hx => h x (List.mem_cons_of_mem _ hx))
      have h2 := h x List.mem_cons_self
      have h3 : ((r.length + 1 : Nat) : Int) * 17592186044416 = r.length * 17592186044416 + 17592186044416 := by omega
      have hb : x.natAbs * x.natAbs ≤ 4194304 * 4194304 := Nat.mul_le_mul (by omega) (by omega)
      have hab : (x * x).natAbs = x.natAbs * x.natAbs := Int.natAbs_mul x x
      have h0 : 0 ≤ x * x := by
        rw [← Int.natAbs_mul_self' x]; omega
      rw [List.length_cons, h3, List.map_cons]
      simp only [isum]
      omega
  have := key (xs.take i) (fun x hx => h.2 x (List.mem_of_mem_take hx))
  have h4 : ((xs.take i).length : Int) ≤ 4096 := by rw [List.length_take]; have := h.1; omega
  omega
theorem isq_take_succ (xs : List Int) (i : Nat) (h : i < xs.length) : isq (xs.take (i + 1)) = isq (xs.take i) + xs.getD i 0 * xs.getD i 0 := by
  unfold isq
  rw [List.take_succ_eq_append_getElem h, List.map_append, isum_append, List.getD_eq_getElem?_getD, List.getElem?_eq_getElem h]
  simp [isum]
set_option maxHeartbeats 1000000 in
theorem sq_total_calls (A : Option Addr) (c : Nat) (xs : List Int) (w : World) (hx : IntsAt w A c xs) (ht : Tame xs) (h0 : xs ≠ []) (hT : Tab w) :
    Calls Tryz.prog 76 #[.slice A xs.length c, .func (.func 77) #[] #[], .func (.func 80) #[] #[]] w fun e w' => e = .returned (.string (T (isq xs))) ∧ Below w.heap.size w w' := by
  have hn2 := hx.big
  have hcap := hx.cap
  have HX := Lib.hid (And.intro hx (And.intro ht (And.intro h0 hT)))
  clear hx ht hT h0
  obtain ⟨n, hln⟩ : ∃ n, xs.length = n := ⟨_, rfl⟩
  rw [hln] at hn2 hcap ⊢
  have Hn := Lib.hid hln
  clear hln
  go_enter Tryz.func76, Tryz.ntmps76
  go_wp2
  go_loopg [7, 13] n (fun k v7 v13 wr => ∃ (i : Nat) (s : ByteArray), v7 = .string s ∧ v13 = .int .i64 i ∧ k + i = n ∧ Hid ((i ≠ 0 → s = T (isq (xs.take i))) ∧ Below w.heap.size w wr))
  case atStart => exact ⟨0, { data := #[] }, rfl, rfl, by omega, ⟨fun h => absurd rfl h, Below.refl _ _⟩⟩
  case round =>
    obtain ⟨i, s, rfl, rfl, hi, hr⟩ := hrel
    cases gk with
    | zero =>
      obtain rfl : i = n := by omega
      clear hi
      have hs : s = T (isq xs) := by
        have h1 : i ≠ 0 := fun h => HX.out.2.2.1 (List.length_eq_zero_iff.1 (Hn.out.trans h))
        have := hr.out.1 h1
        rw [← Hn.out, List.take_length] at this; exact this
      rw [hs]
      clear hs
      go_wp2
      go_ret
      exact ⟨rfl, hr.out.2⟩
    | succ m =>
      have hin : i < n := by omega
      have hin2 : (i : Int) < n := by omega
      obtain ⟨b, o, rfl, hc⟩ := ints_get (ints_below HX.out.1 hr.out.2) (i := i) (by rw [Hn.out]; exact hin)
      have hg := tame_get HX.out.2.1 i
      have hN := isq_take_succ xs i (by rw [Hn.out]; exact hin)
      have hT := isq_take HX.out.2.1 (i + 1)
      have hT0 := isq_take HX.out.2.1 i
      have HQ := Lib.hid (sq_calls (xs.getD i 0) wr hg (tab_below HX.out.2.2.2 hr.out.2))
      have hb : (xs.getD i 0).natAbs * (xs.getD i 0).natAbs ≤ 4194304 * 4194304 := Nat.mul_le_mul (by omega) (by omega)
      have hab : (xs.getD i 0 * xs.getD i 0).natAbs = (xs.getD i 0).natAbs * (xs.getD i 0).natAbs := Int.natAbs_mul _ _
      have HP := Lib.hid (fun w h => show Calls Tryz.prog 80 #[.string (T (isq (xs.take i))), .string (T (xs.getD i 0 * xs.getD i 0))] w fun e w' => e = .returned (.string (T (isq (xs.take (i + 1))))) ∧ Below w.heap.size w w' by
        rw [hN]; exact plus_w_calls _ _ w (fits64 (by omega) (by omega)) (fits64 (by omega) (by omega)) (fits64 (by omega) (by omega)) h)
      have HN := Lib.hid hN
      clear hN hT hT0 hb hab
      generalize xs.getD i 0 = x at *
      cases i with
      | zero =>
        rw [Nat.add_zero] at hc
        have hin3 : (0 : Int) < n := by omega
        have HE := Lib.hid (show T (x * x) = T (isq (xs.take 1)) by
          congr 1; rw [HN.out]; simp [isq, isum])
        generalize T (x * x) = u at *
        go_wp2_with (go_at_call 77; refine (HQ.out).mono ?_; rintro e w1 ⟨rfl, hw1⟩)
        go_roundg m
        case measure => omega
        case rel => exact ⟨1, u, rfl, rfl, by omega, ⟨fun _ => HE.out, below_below hr.out.2 hr.out.2.size hw1⟩⟩
      | succ i =>
        have hib : (((i + 1 : Nat) : Int) == 0) = false := by rw [beq_eq_false_iff_ne]; omega
        have hs := hr.out.1 (by omega)
        subst hs
        generalize T (x * x) = u at *
        go_wp2_with (go_at_call 77; refine (HQ.out).mono ?_; rintro e w1 ⟨rfl, hw1⟩)
        have hB := below_below hr.out.2 hr.out.2.size hw1
        go_wp2_with (go_at_call 80; refine (HP.out _ (tab_below HX.out.2.2.2 hB)).mono ?_; rintro e w2 ⟨rfl, hw2⟩)
        go_roundg m
        case measure => omega
        case rel => exact ⟨i + 1 + 1, _, rfl, by go_num, by omega, ⟨fun _ => rfl, below_below hB hB.size hw2⟩⟩

def vnum (xs : List Int) : Int := (xs.length : Int) * isq xs + -1 * (isum xs * isum xs)
def vari (xs : List Int) : Rat := Rat.divInt (vnum xs) ((xs.length : Int) * ((xs.length : Int) - 1))
theorem T_m1 : T (-1) = { data := #[45, 49] } := by
  unfold T; rw [itoa_neg' (by decide)]
  show S (45 :: Lib.decDigits 1) = _
  rw [decDigits_small (by decide)]; rfl
theorem tame_isq {xs : List Int} (h : Tame xs) : 0 ≤ isq xs ∧ isq xs ≤ 4096 * 17592186044416 := by
  have := isq_take h xs.length
  rw [List.take_length] at this; exact this
set_option maxHeartbeats 1000000 in
theorem cap_var_calls (A : Option Addr) (c : Nat) (xs : List Int) (w : World) (hx : IntsAt w A c xs) (ht : Tame xs) (h0 : 2 ≤ xs.length) (hT : Tab w) :
    Calls Tryz.prog 43 #[.slice A xs.length c] w fun e w' => e = .returned (.tuple #[.string (Q (vari xs)), .int .i64 0]) ∧ Below w.heap.size w w' := by
  have HT := Lib.hid hT
  have HQ := Lib.hid (sq_total_calls A c xs w hx ht (by intro h; rw [h] at h0; simp at h0) hT)
  have HS := Lib.hid (fun w1 (h : Below w.heap.size w w1) => cap_sum_calls A c xs w1 (ints_below hx h) ht)
  have hl := ht.1
  have q1 := tame_isq ht
  have s1 := tame_isum ht
  have HO1 := Lib.hid (fun w h => of_calls (isum xs) (by omega) (by omega) w h)
  have HO2 := Lib.hid (fun w h => of_calls (xs.length : Int) (by omega) (by omega) w h)
  have hnn : (xs.length : Int) * ((xs.length : Int) - 1) ≤ 4096 * 4096 := by
    have a := Int.mul_le_mul_of_nonneg_right (a := (xs.length : Int)) (b := 4096) (c := (xs.length : Int) - 1) (by omega) (by omega)
    omega
  have hnn0 : 0 < (xs.length : Int) * ((xs.length : Int) - 1) := Int.mul_pos (by omega) (by omega)
  have HO3 := Lib.hid (fun w h => of_calls ((xs.length : Int) * ((xs.length : Int) - 1)) (by omega) (by omega) w h)
  have fs : fits (isum xs) = true := fits64 (by omega) (by omega)
  have fq : fits (isq xs) = true := fits64 (by omega) (by omega)
  have fn : fits (xs.length : Int) = true := fits64 (by omega) (by omega)
  have b1 : (isum xs).natAbs * (isum xs).natAbs ≤ 17179869184 * 17179869184 := Nat.mul_le_mul (by omega) (by omega)
  have b2 : (isum xs * isum xs).natAbs = (isum xs).natAbs * (isum xs).natAbs := Int.natAbs_mul _ _
  have b3 : xs.length * (isq xs).natAbs ≤ 4096 * (4096 * 17592186044416) := Nat.mul_le_mul (by omega) (by omega)
  have b4 : ((xs.length : Int) * isq xs).natAbs = xs.length * (isq xs).natAbs := by rw [Int.natAbs_mul]; rfl
  have hp : 17179869184 * 17179869184 + 4096 * (4096 * 17592186044416) < 10 ^ 100 := by decide
  have fss : fits (isum xs * isum xs) = true := fits_big (by omega)
  have fnq : fits ((xs.length : Int) * isq xs) = true := fits_big (by omega)
  have fm : fits (-1) = true := fits64 (by decide) (by decide)
  have fms : fits (-1 * (isum xs * isum xs)) = true := fits_big (by omega)
  have fv : fits (vnum xs) = true := by unfold vnum; exact fits_big (by omega)
  have HT1 := Lib.hid (fun w h => times_w_calls (xs.length : Int) (isq xs) w fn fq fnq h)
  have HT2 := Lib.hid (fun w h => times_w_calls (isum xs) (isum xs) w fs fs fss h)
  have HT3 := Lib.hid (fun w h => times_w_calls (-1) (isum xs * isum xs) w fm fss fms h)
  have HP := Lib.hid (fun w h => plus_w_calls ((xs.length : Int) * isq xs) (-1 * (isum xs * isum xs)) w fnq fms fv h)
  have HM := Lib.hid (fun w h => make_calls (vnum xs) ((xs.length : Int) * ((xs.length : Int) - 1)) w fv (fits64 (by omega) (by omega)) (by omega) h)
  rw [T_m1] at HT3
  rw [show (xs.length : Int) * isq xs + -1 * (isum xs * isum xs) = vnum xs from rfl] at HP
  have e4 : ((xs.length : Int)) - 1 = ((xs.length : Int) - 1) := rfl
  unfold vari
  have hl4 : (xs.length : Int) ≤ 4096 := by omega
  clear hx ht hT fs fq fn b1 b2 b3 b4 hp fss fnq fm fms fv q1 s1 e4
  generalize Q (Rat.divInt (vnum xs) ((xs.length : Int) * ((xs.length : Int) - 1))) = out at *
  generalize T (vnum xs) = tv at *
  generalize T (-1 * (isum xs * isum xs)) = tm at *
  generalize T (isum xs * isum xs) = tss at *
  generalize T ((xs.length : Int) * isq xs) = tnq at *
  generalize T ((xs.length : Int) * ((xs.length : Int) - 1)) = tnn at *
  generalize T (xs.length : Int) = tn at *
  generalize T (isq xs) = tq at *
  generalize T (isum xs) = ts at *
  generalize isum xs = s at *
  generalize xs.length = n at *
  go_enter Tryz.func43, Tryz.ntmps43
  go_wp2_with (go_at_call 76; refine (HQ.out).mono ?_; rintro e w1 ⟨rfl, hw1⟩)
  go_wp2_with (go_at_call 57; refine (HS.out _ hw1).mono ?_; rintro e w2 ⟨rfl, rfl⟩)
  go_wp2_with (go_at_call 79; fail)
  refine (HO1.out _ (tab_below HT.out hw1)).mono ?_
  rintro e w3 ⟨rfl, hw3⟩
  have hB3 := below_below hw1 hw1.size hw3
  go_wp2_with (go_at_call 79; fail)
  refine (HO2.out _ (tab_below HT.out hB3)).mono ?_
  rintro e w4 ⟨rfl, hw4⟩
  have hB4 := below_below hB3 hB3.size hw4
  clear hw1 hw3 hw4 hB3
  go_wp2_with (go_at_call 78; fail)
  refine (HT1.out _ (tab_below HT.out hB4)).mono ?_
  rintro e w5 ⟨rfl, hw5⟩
  have hB5 := below_below hB4 hB4.size hw5
  go_wp2_with (go_at_call 78; fail)
  refine (HT2.out _ (tab_below HT.out hB5)).mono ?_
  rintro e w6 ⟨rfl, hw6⟩
  have hB6 := below_below hB5 hB5.size hw6
  go_wp2_with (go_at_call 78; fail)
  refine (HT3.out _ (tab_below HT.out hB6)).mono ?_
  rintro e w7 ⟨rfl, hw7⟩
  have hB7 := below_below hB6 hB6.size hw7
  clear hw5 hw6 hw7 hB4 hB5 hB6
  go_wp2_with (go_at_call 80; refine (HP.out _ (tab_below HT.out hB7)).mono ?_; rintro e w8 ⟨rfl, hw8⟩)
  have hB8 := below_below hB7 hB7.size hw8
  go_wp2_with (go_at_call 79; fail)
  refine (HO3.out _ (tab_below HT.out hB8)).mono ?_
  rintro e w9 ⟨rfl, hw9⟩
  have hB9 := below_below hB8 hB8.size hw9
  go_wp2_with (go_at_call 81; refine (HM.out _ (tab_below HT.out hB9)).mono ?_; rintro e w10 ⟨rfl, hw10⟩)
  go_ret2
  exact ⟨rfl, below_below hB9 hB9.size hw10⟩
/-- The number of the error of a series of which the variance is asked. -/
def varE (xs : List Int) : Int := if serE xs ≠ 0 then serE xs else if xs.length = 1 then 14 else 0
theorem cap_Var_calls (A : Option Addr) (c : Nat) (xs : List Int) (w : World) (hx : IntsAt w A c xs) (hT : Tab w) :
    Calls Tryz.prog 14 #[.slice A xs.length c] w fun e w' => e = .returned (resV (varE xs) (vari xs)) ∧ Below w.heap.size w w' := by
  have HC := Lib.hid (cap_check_calls A c xs w hx)
  have HM := Lib.hid (fun h h1 => cap_var_calls A c xs w hx (tame_of h) (show 2 ≤ xs.length by
    have := (serE_ok h).1
    have h2 : xs.length ≠ 0 := fun q => this (List.length_eq_zero_iff.1 q)
    have h1 : xs.length ≠ 1 := h1
    omega) hT)
  have hb := hx.big
  clear hx hT
  unfold resV varE
  generalize Q (vari xs) = out at *
  generalize serE xs = e0 at *
  generalize xs.length = n at *
  obtain ⟨ev, hev⟩ : ∃ ev : Int, (if e0 ≠ 0 then e0 else if n = 1 then 14 else 0) = ev := ⟨_, rfl⟩
  rw [hev]
  by_cases h0 : e0 = 0
  · subst h0
    rw [if_neg (by decide)] at hev
    by_cases h1 : n = 1
    · subst h1
      rw [if_pos rfl] at hev
      subst hev
      rw [if_neg (by decide)]
      clear HM
      go_enter Tryz.func14, Tryz.ntmps14
      go_wp2_with (go_at_call 18; refine (HC.out).mono ?_; rintro e w1 ⟨rfl, rfl⟩)
      go_ret2
      exact ⟨rfl, Below.refl _ _⟩
    · rw [if_neg h1] at hev
      subst hev
      rw [if_pos rfl]
      have HM2 := Lib.hid (HM.out rfl h1)
      have hn1 : ((n : Int) == 1) = false := by rw [beq_eq_false_iff_ne]; omega
      clear HM h1
      go_enter Tryz.func14, Tryz.ntmps14
      go_wp2_with (go_at_call 18; refine (HC.out).mono ?_; rintro e w1 ⟨rfl, rfl⟩)
      go_wp2_with (go_at_call 43; refine (HM2.out).mono ?_; rintro e w2 ⟨rfl, hw⟩)
      go_ret2
      exact ⟨rfl, hw⟩
  · rw [if_pos h0] at hev
    subst hev
    rw [if_neg h0]
    have hb : (e0 != 0) = true := by simpa using h0
    clear HM h0
    go_enter Tryz.func14, Tryz.ntmps14
    go_wp2_with (go_at_call 18; refine (HC.out).mono ?_; rintro e w1 ⟨rfl, rfl⟩)
    go_ret2
    exact ⟨rfl, Below.refl _ _⟩
end Go.Proofs.YtdkfebfedfemaaaGreatDoor
