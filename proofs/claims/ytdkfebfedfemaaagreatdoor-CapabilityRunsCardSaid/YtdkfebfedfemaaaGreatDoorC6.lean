/- Sub, Mul, Compare of integers' texts. -/
import Derived.Test.YtdkfebfedfemaaaGreatDoorC5
import Derived.Lib.Small
set_option linter.unusedVariables false
set_option linter.unusedSimpArgs false
namespace Go.Proofs.YtdkfebfedfemaaaGreatDoor
open Go.RowKit Go.Mlab

theorem cmpB_dig : ∀ (a b : List UInt8), a.length = b.length → (∀ c ∈ a, isDig c = true) → (∀ c ∈ b, isDig c = true) → Lib.compareBytes a b = Lib.compareInt (dval a) (dval b)
  | [], [], _, _, _ => rfl
  | [], _ :: _, h, _, _ => by simp at h
  | _ :: _, [], h, _, _ => by simp at h
  | x :: a, y :: b, h, ha, hb => by
    have hl : a.length = b.length := by simpa using h
    have ih := cmpB_dig a b hl (fun c hc => ha c (List.mem_cons_of_mem _ hc)) (fun c hc => hb c (List.mem_cons_of_mem _ hc))
    have hx := isDig_iff.1 (ha x List.mem_cons_self)
    have hy := isDig_iff.1 (hb y List.mem_cons_self)
    have da := dval_lt a (fun c hc => ha c (List.mem_cons_of_mem _ hc))
    have db := dval_lt b (fun c hc => hb c (List.mem_cons_of_mem _ hc))
    unfold Lib.compareBytes
    rw [dval_cons, dval_cons, ih, ← hl]
    rw [← hl] at db
    generalize 10 ^ a.length = p at *
    generalize dval a = u at *
    generalize dval b = v at *
    have e1 : x < y ↔ x.toNat < y.toNat := UInt8.lt_iff_toNat_lt
    have e2 : y < x ↔ y.toNat < x.toNat := UInt8.lt_iff_toNat_lt
    by_cases h1 : x < y
    · rw [if_pos h1]
      have h2 := e1.1 h1
      have h3 : (x.toNat - 48 + 1) * p ≤ (y.toNat - 48) * p := Nat.mul_le_mul_right _ (by omega)
      rw [Nat.add_mul, Nat.one_mul] at h3
      unfold Lib.compareInt
      rw [if_pos (by omega)]
    · rw [if_neg h1]
      by_cases h4 : y < x
      · rw [if_pos h4]
        have h2 := e2.1 h4
        have h3 : (y.toNat - 48 + 1) * p ≤ (x.toNat - 48) * p := Nat.mul_le_mul_right _ (by omega)
        rw [Nat.add_mul, Nat.one_mul] at h3
        unfold Lib.compareInt
        rw [if_neg (by omega), if_pos (by omega)]
      · rw [if_neg h4]
        have h5 : x.toNat = y.toNat := by
          have n1 := mt e1.2 h1
          have n2 := mt e2.2 h4
          omega
        rw [h5]
        unfold Lib.compareInt
        generalize (y.toNat - 48) * p = q
        congr 1
        · apply propext; omega
        · congr 1; apply propext; omega
theorem ordL_dec (u v : Nat) : ordL (Lib.decDigits u) (Lib.decDigits v) = Lib.compareInt u v := by
  unfold ordL
  by_cases h : (Lib.decDigits u).length = (Lib.decDigits v).length
  · rw [if_pos h, cmpB_dig _ _ h (decDigits_dig u) (decDigits_dig v), dval_decDigits, dval_decDigits]
  · rw [if_neg h]
    rw [Lib.decDigits_length, Lib.decDigits_length] at *
    have key : ∀ a b : Nat, Lib.nDigits a < Lib.nDigits b → a < b := by
      intro a b hab
      have h1 := (nDigits_le (u := a) (k := Lib.nDigits a) (Lib.nDigits_pos a)).1 (Nat.le_refl _)
      rcases Nat.lt_or_ge a b with q | q
      · exact q
      · have h2 := (nDigits_le (u := b) (k := Lib.nDigits a) (Lib.nDigits_pos a)).2 (by omega)
        omega
    unfold Lib.compareInt
    by_cases h1 : Lib.nDigits u < Lib.nDigits v
    · have := key u v h1
      rw [if_pos h1, if_pos (by omega)]
    · have := key v u (by omega)
      rw [if_neg h1, if_neg (by omega), if_pos (by omega)]
/-- What Compare reckons. -/
theorem cmp_eq (a b : Int) : Lib.compareInt a b = if a.sign < b.sign then -1 else if a.sign > b.sign then 1 else a.sign * ordL (bare (Lib.itoa a)) (bare (Lib.itoa b)) := by
  rw [bare_itoa, bare_itoa, ordL_dec]
  unfold Lib.compareInt
  rcases Int.lt_trichotomy a 0 with h | h | h <;> rcases Int.lt_trichotomy b 0 with k | k | k
  all_goals first | rw [Int.sign_eq_neg_one_of_neg h] | rw [h, Int.sign_zero] | rw [Int.sign_eq_one_of_pos h]
  all_goals first | rw [Int.sign_eq_neg_one_of_neg k] | rw [k, Int.sign_zero] | rw [Int.sign_eq_one_of_pos k]
  all_goals simp
  all_goals (repeat' split) <;> omega

set_option maxHeartbeats 1000000 in
theorem sub_calls (a b : Int) (w : World) (ha : fits a = true) (hb : fits b = true) (ht : Tab w) :
    Calls Tryz.prog 181 #[.string (T a), .string (T b)] w fun e w' => e = .returned (lim (a - b)) ∧ Below w.heap.size w w' := by
  have HA := Lib.hid (all2_ok a b w 84 ha hb)
  have HT := Lib.hid ht
  clear ht
  have HO := Lib.hid (fun w => opposite_calls b w (by have := fits_size hb; omega))
  have HD := Lib.hid (fun w h => add_calls a (-b) w ha (by rw [fits_neg]; exact hb) h)
  rw [← Int.sub_eq_add_neg] at HD
  clear ha hb
  generalize T a = s at *
  generalize T b = t at *
  generalize T (-b) = u at *
  go_enter Tryz.func181, Tryz.ntmps181
  go_wp2_with (go_at_call 108; refine (HA.out).mono ?_; rintro e w1 ⟨rfl, hw1⟩)
  go_wp2_with (go_at_call 206; refine (HO.out _).mono ?_; rintro e w2 ⟨rfl, rfl⟩)
  go_wp2_with (go_at_call 113; refine (HD.out _ (tab_below HT.out hw1)).mono ?_; rintro e w3 ⟨rfl, hw3⟩)
  go_ret2
  exact ⟨rfl, below_below hw1 hw1.size hw3⟩
set_option maxHeartbeats 1000000 in
theorem mul_calls (a b : Int) (w : World) (ha : fits a = true) (hb : fits b = true) (ht : Tab w) :
    Calls Tryz.prog 107 #[.string (T a), .string (T b)] w fun e w' => e = .returned (lim (a * b)) ∧ Below w.heap.size w w' := by
  have HA := Lib.hid (all2_ok a b w 84 ha hb)
  have HT := Lib.hid ht
  clear ht
  by_cases hs : (T a).size ≤ 9 ∧ (T b).size ≤ 9
  · have h1 := short_bound hs.1
    have h2 := short_bound hs.2
    have h3 : -1000000000000000000 ≤ a * b ∧ a * b ≤ 1000000000000000000 := by
      have k1 : (a * b).natAbs = a.natAbs * b.natAbs := Int.natAbs_mul a b
      have k2 : a.natAbs * b.natAbs ≤ 1000000000 * 1000000000 := Nat.mul_le_mul (by omega) (by omega)
      omega
    rw [lim_small (by omega) (by omega)]
    have HS := Lib.hid (fun w => small_short a b w hs.1 hs.2)
    have HR := Lib.hid (fun w h => result_calls (a * b) (by omega) (by omega) w h)
    clear ha hb hs h1 h2
    generalize T a = s at *
    generalize T b = t at *
    go_enter Tryz.func107, Tryz.ntmps107
    go_wp2_with (go_at_call 108; refine (HA.out).mono ?_; rintro e w1 ⟨rfl, hw1⟩)
    go_wp2_with (go_at_call 140; refine (HS.out _).mono ?_; rintro e w2 ⟨rfl, hw2⟩)
    have hB := below_below hw1 hw1.size hw2
    go_wp2_with (go_at_call 141; refine (HR.out _ (tab_below HT.out hB)).mono ?_; rintro e w3 ⟨rfl, hw3⟩)
    go_ret2
    exact ⟨rfl, below_below hB hB.size hw3⟩
  · have HS := Lib.hid (fun w => small_long a b w (by have := fits_size ha; omega) (by have := fits_size hb; omega) hs)
    have HRa := Lib.hid (fun w => read_calls a w ha)
    have HRb := Lib.hid (fun w => read_calls b w hb)
    have HM := Lib.hid (fun w1 e2 w2 e3 w3 (h2 : NewWide w1 a e2 w2) (h3 : NewWide w2 b e3 w3) =>
      show ∃ d d', e2 = .returned (.pointer (some ⟨d, 0, none⟩)) ∧ e3 = .returned (.pointer (some ⟨d', 0, none⟩)) ∧ Hid (Calls Tryz.prog 143 #[.pointer (some ⟨d, 0, none⟩), .pointer (some ⟨d', 0, none⟩)] w3 fun e w' => NewWide w1 (a * b) e w') by
        obtain ⟨d, x, rfl, g1, g2, g3, g4, g5⟩ := h2
        obtain ⟨d', y, rfl, k1, k2, k3, k4, k5⟩ := h3
        refine ⟨d, d', rfl, rfl, Lib.hid ?_⟩
        refine (times_calls d d' x y w3 (wideAt_below g2 k5) k2 g3 k3 (by
          have := fits_n g3 (by rw [g4]; exact ha); have := fits_n k3 (by rw [k4]; exact hb); omega)).mono ?_
        rintro e w' ⟨c, z, rfl, m1, m2, m3, m4, m5⟩
        have h6 := below_below g5 g5.size k5
        exact ⟨c, z, rfl, Nat.le_trans h6.size m1, m2, m3, by rw [m4, g4, k4], below_below h6 h6.size m5⟩)
    have HL := Lib.hid (fun w1 e w2 (ht : Tab w1) (h : NewWide w1 (a * b) e w2) => show ∃ d, e = .returned (.pointer (some ⟨d, 0, none⟩)) ∧ Hid (Calls Tryz.prog 144 #[.pointer (some ⟨d, 0, none⟩)] w2 fun e w' => e = .returned (lim (a * b)) ∧ Below w1.heap.size w1 w') by
        obtain ⟨d, x, rfl, g1, g2, g3, g4, g5⟩ := h
        refine ⟨d, rfl, Lib.hid ?_⟩
        refine (limited_calls d x w2 g2 g3 (tab_below ht g5) (by have := wide_text_size g3; omega)).mono ?_
        rintro e w3 ⟨rfl, h⟩
        rw [g4]
        exact ⟨rfl, below_below g5 g5.size h⟩)
    clear ha hb hs
    generalize T a = s at *
    generalize T b = t at *
    go_enter Tryz.func107, Tryz.ntmps107
    go_wp2_with (go_at_call 108; refine (HA.out).mono ?_; rintro e w1 ⟨rfl, hw1⟩)
    go_wp2_with (go_at_call 140; refine (HS.out _).mono ?_; rintro e w2 ⟨rfl, rfl⟩)
    go_wp2_with (go_at_call 142; fail)
    refine (HRa.out _).mono ?_
    intro e3 w3 h3
    have H3 := Lib.hid h3
    obtain ⟨d, rfl⟩ : ∃ d, e3 = .returned (.pointer (some ⟨d, 0, none⟩)) := by obtain ⟨d, x, rfl, _⟩ := h3; exact ⟨d, rfl⟩
    clear h3
    go_wp2_with (go_at_call 142; fail)
    refine (HRb.out _).mono ?_
    intro e4 w4 h4
    have H4 := Lib.hid h4
    obtain ⟨d', rfl⟩ : ∃ d, e4 = .returned (.pointer (some ⟨d, 0, none⟩)) := by obtain ⟨d, x, rfl, _⟩ := h4; exact ⟨d, rfl⟩
    clear h4
    have HC := Lib.hid (HM.out _ _ _ _ _ H3.out H4.out)
    have HC2 := Lib.hid (show Calls Tryz.prog 143 #[.pointer (some ⟨d, 0, none⟩), .pointer (some ⟨d', 0, none⟩)] w4 (fun e w' => NewWide w2 (a * b) e w') by
      obtain ⟨p, q, e1, e2, h⟩ := HC.out
      cases e1; cases e2; exact h.out)
    clear HC H3 H4 HM HRa HRb
    go_wp2_with (go_at_call 143; refine (HC2.out).mono ?_; intro e5 w5 h5; obtain ⟨c, rfl, hL⟩ := HL.out _ _ _ (tab_below HT.out hw1) h5; clear h5)
    go_wp2_with (go_at_call 144; refine (hL.out).mono ?_; rintro e6 w6 ⟨rfl, hw6⟩)
    go_ret2
    exact ⟨rfl, below_below hw1 hw1.size hw6⟩
set_option maxHeartbeats 1000000 in
theorem compare_calls (a b : Int) (w : World) (ha : fits a = true) (hb : fits b = true) :
    Calls Tryz.prog 74 #[.string (T a), .string (T b)] w fun e w' => e = .returned (.tuple #[.int .i64 (Lib.compareInt a b), .int .i64 0]) ∧ Below w.heap.size w w' := by
  have HA := Lib.hid (all2_ok a b w 84 ha hb)
  have HSa := Lib.hid (fun w => sign_calls a w)
  have HSb := Lib.hid (fun w => sign_calls b w)
  have HTa := Lib.hid (fun w => trimPrefix_calls (T a) w)
  have HTb := Lib.hid (fun w => trimPrefix_calls (T b) w)
  have sa : (S (bare (Lib.itoa a))).size ≤ 9223372036854775807 := by rw [S_size]; have := bare_len_fits ha; omega
  have sb : (S (bare (Lib.itoa b))).size ≤ 9223372036854775807 := by rw [S_size]; have := bare_len_fits hb; omega
  have HO := Lib.hid (fun w => order_calls (S (bare (Lib.itoa a))) (S (bare (Lib.itoa b))) w sa sb)
  rw [show (T a).data.toList = Lib.itoa a from rfl] at HTa
  rw [show (T b).data.toList = Lib.itoa b from rfl] at HTb
  rw [S_toList, S_toList] at HO
  rw [cmp_eq]
  have hobound : ordL (bare (Lib.itoa a)) (bare (Lib.itoa b)) = -1 ∨ ordL (bare (Lib.itoa a)) (bare (Lib.itoa b)) = 0 ∨ ordL (bare (Lib.itoa a)) (bare (Lib.itoa b)) = 1 := by
    rw [bare_itoa, bare_itoa, ordL_dec]; unfold Lib.compareInt; split
    · exact .inl rfl
    · split
      · exact .inr (.inr rfl)
      · exact .inr (.inl rfl)
  have hsa : a.sign = -1 ∨ a.sign = 0 ∨ a.sign = 1 := by
    rcases Int.lt_trichotomy a 0 with h | h | h
    · exact .inl (Int.sign_eq_neg_one_of_neg h)
    · exact .inr (.inl (by rw [h]; rfl))
    · exact .inr (.inr (Int.sign_eq_one_of_pos h))
  generalize ordL (bare (Lib.itoa a)) (bare (Lib.itoa b)) = o at *
  generalize S (bare (Lib.itoa a)) = u at *
  generalize S (bare (Lib.itoa b)) = v at *
  generalize a.sign = p at *
  generalize b.sign = q at *
  clear ha hb sa sb
  generalize T a = s at *
  generalize T b = t at *
  by_cases h1 : p < q
  · rw [if_pos h1]
    go_enter Tryz.func74, Tryz.ntmps74
    go_wp2_with (go_at_call 108; refine (HA.out).mono ?_; rintro e w1 ⟨rfl, hw1⟩)
    go_wp2_with (go_at_call 109; fail)
    refine (HSa.out _).mono ?_
    rintro e w2 ⟨rfl, rfl⟩
    go_wp2_with (go_at_call 109; fail)
    refine (HSb.out _).mono ?_
    rintro e w3 ⟨rfl, rfl⟩
    go_wp2
    go_ret2
    exact ⟨rfl, hw1⟩
  · rw [if_neg h1]
    by_cases h2 : p > q
    · rw [if_pos h2]
      have h2' : q < p := h2
      go_enter Tryz.func74, Tryz.ntmps74
      go_wp2_with (go_at_call 108; refine (HA.out).mono ?_; rintro e w1 ⟨rfl, hw1⟩)
      go_wp2_with (go_at_call 109; fail)
      refine (HSa.out _).mono ?_
      rintro e w2 ⟨rfl, rfl⟩
      go_wp2_with (go_at_call 109; fail)
      refine (HSb.out _).mono ?_
      rintro e w3 ⟨rfl, rfl⟩
      go_wp2_with (go_at_call 109; fail)
      refine (HSb.out _).mono ?_
      rintro e w4 ⟨rfl, rfl⟩
      go_wp2
      go_ret2
      exact ⟨rfl, hw1⟩
    · rw [if_neg h2]
      have h2' : ¬ q < p := h2
      have hpo : -1 ≤ p * o ∧ p * o ≤ 1 := by
        rcases hsa with rfl | rfl | rfl <;> rcases hobound with rfl | rfl | rfl <;> decide
      clear hsa hobound
      go_enter Tryz.func74, Tryz.ntmps74
      go_wp2_with (go_at_call 108; refine (HA.out).mono ?_; rintro e w1 ⟨rfl, hw1⟩)
      go_wp2_with (go_at_call 109; fail)
      refine (HSa.out _).mono ?_
      rintro e w2 ⟨rfl, rfl⟩
      go_wp2_with (go_at_call 109; fail)
      refine (HSb.out _).mono ?_
      rintro e w3 ⟨rfl, rfl⟩
      go_wp2_with (go_at_call 109; fail)
      refine (HSb.out _).mono ?_
      rintro e w4 ⟨rfl, rfl⟩
      go_wp2_with (go_at_call 111; fail)
      refine (HTa.out _).mono ?_
      rintro e w5 ⟨rfl, rfl⟩
      go_wp2_with (go_at_call 111; fail)
      refine (HTb.out _).mono ?_
      rintro e w6 ⟨rfl, rfl⟩
      go_wp2_with (go_at_call 110; refine (HO.out _).mono ?_; rintro e w7 ⟨rfl, rfl⟩)
      go_ret2
      exact ⟨rfl, hw1⟩
end Go.Proofs.YtdkfebfedfemaaaGreatDoor
