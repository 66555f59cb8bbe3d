/- The reference's integers: Turned, Of. The reference's integers: number, brief. The reference's integers: Parted of short ones. -/
import Derived.Test.YtdkfebfedfemaaaGreatDoorF4
import Derived.Laws.IdiomStrings
set_option linter.unusedVariables false
set_option linter.unusedSimpArgs false
namespace Go.Proofs.YtdkfebfedfemaaaGreatDoor
open Go.RowKit Go.Mlab

theorem D_natAbs_size (z : Int) : (D z.natAbs).size ≤ (T z).size ∧ (T (-z)).size ≤ (D z.natAbs).size + 1 := by
  have hs : ∀ u, ({ data := #[45] } ++ D u : ByteArray).size = (D u).size + 1 := by
    intro u
    rw [ByteArray.size_append]
    show 1 + (D u).size = _
    omega
  rcases Int.lt_trichotomy z 0 with h | h | h
  · rw [T_minus h, hs, T_nonneg (z := -z) (by omega), Int.natAbs_neg]; omega
  · subst h; rw [T_nonneg (Int.le_refl _)]; exact ⟨Nat.le_refl _, by rw [show -(0 : Int) = 0 from rfl, T_nonneg (Int.le_refl _)]; omega⟩
  · rw [T_minus (z := -z) (by omega), hs, T_nonneg (by omega), Int.natAbs_neg]; omega
theorem turned_calls (z : Int) (w : World) (hz : (T z).size ≤ 4611686018427387904) :
    Calls Tryz.prog 100 #[.string (T z)] w fun e w' => e = .returned (.string (T (-z))) ∧ w' = w := by
  have hD := (D_natAbs_size z).1
  have e : (if (!decide (z < 0)) then -((z.natAbs : Nat) : Int) else (z.natAbs : Int)) = -z := by
    by_cases h : z < 0
    · rw [decide_eq_true h]; simp; omega
    · rw [decide_eq_false h]; simp; omega
  have H1 := Lib.hid (fun w => size_calls z w hz)
  have H2 := Lib.hid (fun w => below_calls z w)
  have H3 := Lib.hid (fun w => e ▸ signed_calls z.natAbs (!decide (z < 0)) w (by omega))
  clear e hD hz
  generalize (decide (z < 0)) = b at *
  generalize T z = s at *
  generalize T (-z) = t at *
  generalize D z.natAbs = d at *
  cases b with
  | false =>
    go_enter Tryz.func100, Tryz.ntmps100
    go_wp2_with (go_at_call 135; refine (H1.out _).mono ?_; rintro e w1 ⟨rfl, rfl⟩)
    go_wp2_with (go_at_call 102; refine (H2.out _).mono ?_; rintro e w1 ⟨rfl, rfl⟩)
    go_wp2_with (go_at_call 134; refine (H3.out _).mono ?_; rintro e w1 ⟨rfl, rfl⟩)
    go_ret
    exact ⟨rfl, rfl⟩
  | true =>
    go_enter Tryz.func100, Tryz.ntmps100
    go_wp2_with (go_at_call 135; refine (H1.out _).mono ?_; rintro e w1 ⟨rfl, rfl⟩)
    go_wp2_with (go_at_call 102; refine (H2.out _).mono ?_; rintro e w1 ⟨rfl, rfl⟩)
    go_wp2_with (go_at_call 134; refine (H3.out _).mono ?_; rintro e w1 ⟨rfl, rfl⟩)
    go_ret
    exact ⟨rfl, rfl⟩
theorem one_byte (w : World) (u : Nat) (hu : u < 10) (n : Int) (hn : n = 48 + (u : Int)) :
    (convert 113 9 (.slice (some ⟨w.heap.size, 0, none⟩) 1 1)).run Tryz.prog (w.alloc (.cells #[.int .u8 n] 5)) = .ok (.string (S [UInt8.ofNat (48 + u)])) (w.alloc (.cells #[.int .u8 n] 5)) :=
  run_convert_bytes_back _ 113 9 5 ⟨w.heap.size, 0, none⟩ 1 [UInt8.ofNat (48 + u)] Tryz.underlying113 Tryz.underlying5 Tryz.underlying9 (fun j hj => by
    obtain rfl : j = 0 := by simpa using hj
    show World.cell? _ ⟨w.heap.size, 0 + 0 * 1, none⟩ = _
    rw [World.cell?_alloc_at _ _ _ _ rfl]
    show some (Value.int .u8 n) = some (.int .u8 ((UInt8.ofNat (48 + u)).toNat : Int))
    rw [toNat_ofNat48 hu, hn]; rfl)
theorem S_cons (c : UInt8) (t : List UInt8) : S [c] ++ S t = S (c :: t) := by
  apply WideShapes.bytes_inj
  rw [Joins.data_append]
  rfl
theorem nDigits_19 {N : Nat} (h : N ≤ 9223372036854775808) : Lib.nDigits N ≤ 19 := (nDigits_le (by decide)).2 (by omega)
set_option maxRecDepth 100000 in
theorem of_pos_calls (N : Nat) (w : World) (h : N ≤ 9223372036854775807) (h0 : 0 < N) :
    Calls Tryz.prog 69 #[.int .i64 N] w fun e w' => e = .returned (.string (T N)) ∧ Below w.heap.size w w' := by
  rw [T_nonneg (by omega), Int.natAbs_natCast]
  have a1 : ((N : Int) == -(N : Int)) = false := by
    rw [beq_eq_false_iff_ne]; omega
  have a2 : (0 : Int) ≤ N := by omega
  have HL := Lib.hid (nDigits_19 (N := N) (by omega))
  go_enter Tryz.func69, Tryz.ntmps69
  go_wp2
  go_loopg [0, 3] N (fun k v0 v3 wr => ∃ t, v0 = .int .i64 k ∧ v3 = .string (S t) ∧ k ≤ N ∧ Hid (Lib.decDigits N = Lib.decDigits k ++ t ∧ Below w.heap.size w wr))
  case atStart => exact ⟨[], rfl, by unfold S; rfl, Nat.le_refl _, ⟨by rw [List.append_nil], Below.refl _ _⟩⟩
  case round =>
    obtain ⟨t, rfl, rfl, hk, hr⟩ := hrel
    have ht : (S t).size ≤ 19 := by
      have h1 := congrArg List.length hr.out.1
      have h2 := HL.out
      rw [List.length_append, Lib.decDigits_length] at h1
      rw [S_size]; omega
    by_cases hb : 9 < gk
    · have hb1 : (9 : Int) < gk := by omega
      have hcv := one_byte wr (gk % 10) (by omega) (48 + (gk : Int) % 10) (by omega)
      have hD := Lib.hid (decDigits_big (u := gk) (by omega))
      have HS := Lib.hid (S_cons (UInt8.ofNat (48 + gk % 10)) t)
      have h1 : (S [UInt8.ofNat (48 + gk % 10)]).size = 1 := S_size _
      have hsz : wr.heap.size ≤ wr.heap.size := Nat.le_refl _
      have hB := Lib.hid (hr.out.2.alloc hr.out.2.size (.cells #[.int .u8 (48 + (gk : Int) % 10)] 5))
      have hm : gk / 10 < gk := by omega
      have hm2 : gk / 10 ≤ N := by omega
      have HK := Lib.hid (show (gk : Int) / 10 = ((gk / 10 : Nat) : Int) by omega)
      generalize UInt8.ofNat (48 + gk % 10) = c at *
      generalize hs1 : S [c] = s1 at *
      generalize hst : S t = st at *
      have h2 : ¬ 9223372036854775807 < s1.size + st.size := by omega
      clear hst hs1
      go_wp2
      go_roundg (gk / 10)
      case measure => exact hm
      case rel => exact ⟨c :: t, by rw [HK.out], by rw [HS.out], hm2, ⟨by rw [hr.out.1, hD.out, List.append_assoc]; rfl, hB.out⟩⟩
    · have hb1 : (gk : Int) ≤ 9 := by omega
      have hcv := one_byte wr gk (by omega) (48 + (gk : Int)) rfl
      have hD := Lib.hid (show S (UInt8.ofNat (48 + gk) :: t) = D N by
        unfold D; rw [hr.out.1, decDigits_small (by omega)]; rfl)
      have HS := Lib.hid (S_cons (UInt8.ofNat (48 + gk)) t)
      have h1 : (S [UInt8.ofNat (48 + gk)]).size = 1 := S_size _
      have hB := Lib.hid (hr.out.2.alloc hr.out.2.size (.cells #[.int .u8 (48 + (gk : Int))] 5))
      generalize UInt8.ofNat (48 + gk) = c at *
      generalize hs1 : S [c] = s1 at *
      generalize hst : S t = st at *
      have h2 : ¬ 9223372036854775807 < s1.size + st.size := by omega
      clear hst hs1
      go_wp2
      go_ret
      exact ⟨by rw [HS.out, hD.out]; rfl, hB.out⟩
theorem of_zero_calls (w : World) :
    Calls Tryz.prog 69 #[.int .i64 0] w fun e w' => e = .returned (.string (T 0)) ∧ Below w.heap.size w w' := by
  have HT := Lib.hid (show S [UInt8.ofNat (48 + 0)] ++ { data := #[] } = T 0 by rw [T_zero]; rfl)
  have hcv := one_byte w 0 (by omega) 48 rfl
  have h1 : (S [UInt8.ofNat (48 + 0)]).size = 1 := S_size _
  have hB := Lib.hid ((Below.refl w.heap.size w).alloc (Nat.le_refl _) (.cells #[.int .u8 48] 5))
  generalize S [UInt8.ofNat (48 + 0)] = s1 at *
  have h2 : ¬ 9223372036854775807 < s1.size := by omega
  have h3 : ¬ 9223372036854775807 < s1.size + 0 := by omega
  go_enter Tryz.func69, Tryz.ntmps69
  go_wp2
  go_loopg [0, 3] 0 (fun k v0 v3 wr => v0 = .int .i64 0 ∧ v3 = .string { data := #[] } ∧ wr = w)
  case atStart => exact ⟨rfl, rfl, rfl⟩
  case round =>
    obtain ⟨rfl, rfl, rfl⟩ := hrel
    go_wp2
    go_ret
    exact ⟨by rw [HT.out]; rfl, hB.out⟩
theorem T_min : T (-9223372036854775808) = { data := #[45, 57, 50, 50, 51, 51, 55, 50, 48, 51, 54, 56, 53, 52, 55, 55, 53, 56, 48, 56] } := by
  unfold T
  rw [itoa_neg' (by decide)]
  kernel_rfl
set_option maxRecDepth 100000 in
theorem of_min_calls (w : World) :
    Calls Tryz.prog 69 #[.int .i64 (-9223372036854775808)] w fun e w' => e = .returned (.string (T (-9223372036854775808))) ∧ Below w.heap.size w w' := by
  rw [T_min]
  have a0 : wrap64 9223372036854775808 = -9223372036854775808 := by kernel_rfl
  have a1 : -(-9223372036854775808 : Int) = 9223372036854775808 := by decide
  have a2 : ((-9223372036854775808 : Int) == -9223372036854775808) = true := by decide
  have a3 : ((-9223372036854775808 : Int) == 0) = false := by decide
  go_enter Tryz.func69, Tryz.ntmps69
  go_wp2
  go_ret
  exact ⟨rfl, Below.refl _ _⟩
theorem of_nonneg_calls (N : Nat) (w : World) (h : N ≤ 9223372036854775807) :
    Calls Tryz.prog 69 #[.int .i64 N] w fun e w' => e = .returned (.string (T N)) ∧ Below w.heap.size w w' := by
  rcases Nat.eq_zero_or_pos N with q | q
  · subst q; exact of_zero_calls w
  · exact of_pos_calls N w h q
theorem T_bd {z : Int} {k : Nat} (hk : 0 < k) (h : z.natAbs < 10 ^ k) : (T z).size ≤ k + 1 := by
  have h1 := (D_natAbs_size (-z)).2
  rw [Int.neg_neg, Int.natAbs_neg] at h1
  have h2 : (D z.natAbs).size ≤ k := by
    unfold D; rw [S_size, Lib.decDigits_length]; exact (nDigits_le hk).2 h
  omega
theorem T_i64 {z : Int} (h : -9223372036854775808 ≤ z ∧ z ≤ 9223372036854775807) : (T z).size ≤ 20 := T_bd (k := 19) (by decide) (by omega)
theorem of_neg_calls (z : Int) (w : World) (h : -9223372036854775807 ≤ z) (h0 : z < 0) :
    Calls Tryz.prog 69 #[.int .i64 z] w fun e w' => e = .returned (.string (T z)) ∧ Below w.heap.size w w' := by
  have H1 := Lib.hid (fun w => (show Calls Tryz.prog 69 #[.int .i64 (-z)] w fun e w' => e = .returned (.string (T (-z))) ∧ Below w.heap.size w w' by
    have := of_nonneg_calls z.natAbs w (by omega)
    rwa [show ((z.natAbs : Nat) : Int) = -z by omega] at this))
  have H2 := Lib.hid (fun w => (show Calls Tryz.prog 100 #[.string (T (-z))] w fun e w' => e = .returned (.string (T z)) ∧ w' = w by
    have := turned_calls (-z) w (by have := T_i64 (z := -z) (by omega); omega)
    rwa [Int.neg_neg] at this))
  have a1 : (z == -z) = false := by rw [beq_eq_false_iff_ne]; omega
  go_enter Tryz.func69, Tryz.ntmps69
  go_wp2_with (go_at_call 69; refine (H1.out _).mono ?_; rintro e w1 ⟨rfl, hw⟩)
  go_wp2_with (go_at_call 100; refine (H2.out _).mono ?_; rintro e w2 ⟨rfl, rfl⟩)
  go_ret
  exact ⟨rfl, hw⟩
/-- Of: the text of an int. -/
theorem rof_calls (z : Int) (w : World) (h : -9223372036854775808 ≤ z ∧ z ≤ 9223372036854775807) :
    Calls Tryz.prog 69 #[.int .i64 z] w fun e w' => e = .returned (.string (T z)) ∧ Below w.heap.size w w' := by
  rcases Int.lt_or_le z 0 with q | q
  · rcases Int.lt_or_le (-9223372036854775808) z with p | p
    · exact of_neg_calls z w (by omega) q
    · obtain rfl : z = -9223372036854775808 := by omega
      exact of_min_calls w
  · obtain ⟨n, rfl⟩ : ∃ n : Nat, z = n := ⟨z.toNat, by omega⟩
    exact of_nonneg_calls n w (by omega)
end Go.Proofs.YtdkfebfedfemaaaGreatDoor
set_option linter.unusedVariables false
set_option linter.unusedSimpArgs false
namespace Go.Proofs.YtdkfebfedfemaaaGreatDoor
open Go.RowKit Go.Mlab

theorem dig_get (l : List UInt8) (hd : ∀ c ∈ l, isDig c = true) {i : Nat} (h : i < (S l).size) :
    48 ≤ ((S l)[i]'h).toNat ∧ ((S l)[i]'h).toNat ≤ 57 ∧ dval (l.take (i + 1)) = dval (l.take i) * 10 + (((S l)[i]'h).toNat - 48) := by
  have hl : i < l.length := by rw [S_size] at h; exact h
  have e : (S l)[i]'h = l[i] := rfl
  have hc := isDig_iff.1 (hd l[i] (List.getElem_mem _))
  rw [e]
  refine ⟨hc.1, hc.2, ?_⟩
  rw [List.take_succ_eq_append_getElem hl, dval_snoc]
theorem number_calls (z : Int) (w : World) (hz : z.natAbs < 10 ^ 18) :
    Calls Tryz.prog 162 #[.string (T z)] w fun e w' => e = .returned (.int .i64 z) ∧ w' = w := by
  have hs : (T z).size ≤ 19 := T_bd (k := 18) (by decide) hz
  have hlen : (Lib.decDigits z.natAbs).length ≤ 18 := by rw [Lib.decDigits_length]; exact (nDigits_le (by decide)).2 hz
  have H1 := Lib.hid (fun w => size_calls z w (by omega))
  have H2 := Lib.hid (fun w => below_calls z w)
  have HV := Lib.hid (dval_decDigits z.natAbs)
  have HD := Lib.hid (decDigits_dig z.natAbs)
  unfold D at H1
  have HZ := Lib.hid (show (if z < 0 then -(z.natAbs : Int) else z.natAbs) = z by split <;> omega)
  have hz18 : (z.natAbs : Int) < 1000000000000000000 := by omega
  generalize z.natAbs = u at *
  generalize Lib.decDigits u = ds at *
  generalize T z = s at *
  clear hs
  obtain ⟨n, hn⟩ : ∃ n, (S ds).size = n := ⟨_, rfl⟩
  have hnl : n = ds.length := by rw [← hn, S_size]
  go_enter Tryz.func162, Tryz.ntmps162
  go_wp2_with (go_at_call 135; refine (H1.out _).mono ?_; rintro e w1 ⟨rfl, rfl⟩)
  go_wp2
  go_loopg [3, 5] n (fun k v3 v5 wr => ∃ i : Nat, v5 = .int .i64 i ∧ k + i = n ∧ v3 = .int .i64 (dval (ds.take i)) ∧ wr = w1)
  case atStart => exact ⟨0, rfl, by omega, rfl, rfl⟩
  case round =>
    obtain ⟨i, rfl, hi, rfl, rfl⟩ := hrel
    cases gk with
    | zero =>
      obtain rfl : i = n := by omega
      clear hi
      have e : dval (ds.take i) = u := by rw [hnl, List.take_length]; exact HV.out
      rw [e]
      by_cases hb : z < 0
      · rw [decide_eq_true hb] at H2
        have hz := HZ.out
        rw [if_pos hb] at hz
        subst hz
        clear hb e
        go_wp2_with (go_at_call 102; refine (H2.out _).mono ?_; rintro e w2 ⟨rfl, rfl⟩)
        go_ret
        exact ⟨rfl, rfl⟩
      · rw [decide_eq_false hb] at H2
        have hz := HZ.out
        rw [if_neg hb] at hz
        subst hz
        clear hb e
        go_wp2_with (go_at_call 102; refine (H2.out _).mono ?_; rintro e w2 ⟨rfl, rfl⟩)
        go_ret
        exact ⟨rfl, rfl⟩
    | succ m =>
      have hin : i < (S ds).size := by omega
      have hin2 : (i : Int) < n := by omega
      obtain ⟨c1, c2, c3⟩ := dig_get ds HD.out hin
      have hv : dval (ds.take i) < 10 ^ 17 := by
        have h1 := dval_lt (ds.take i) (fun c hc => HD.out c (List.mem_of_mem_take hc))
        have h2 : (ds.take i).length ≤ 17 := by rw [List.length_take]; omega
        exact Nat.lt_of_lt_of_le h1 (Nat.pow_le_pow_right (by decide) h2)
      have HN := Lib.hid c3
      clear c3
      generalize dval (ds.take i) = v at *
      generalize hc : ((S ds)[i]'hin).toNat = c at *
      generalize S ds = s2 at *
      have hv2 : (v : Int) < 100000000000000000 := by omega
      have hc0 : (48 : Int) ≤ c := by omega
      have hc9 : (c : Int) ≤ 57 := by omega
      have HI := Lib.hid hi
      have hn18 : (n : Int) ≤ 18 := by omega
      have HW := Lib.hid (show (10 * (v : Int) + (c - 48)) = (dval (ds.take (i + 1)) : Int) by have := HN.out; omega)
      clear hi hnl
      go_wp2
      go_roundg m
      case measure => omega
      case rel => exact ⟨i + 1, by go_num, by have := HI.out; omega, by rw [HW.out], rfl⟩
theorem D_short {z : Int} : (D z.natAbs).size ≤ 18 ↔ z.natAbs < 10 ^ 18 := by
  unfold D; rw [S_size, Lib.decDigits_length]; exact nDigits_le (by decide)
theorem brief_yes (a b : Int) (w : World) (ha : a.natAbs < 10 ^ 18) (hb : b.natAbs < 10 ^ 18) :
    Calls Tryz.prog 136 #[.string (T a), .string (T b)] w fun e w' => e = .returned (.tuple #[.int .i64 a, .int .i64 b, .bool true]) ∧ w' = w := by
  have sa : (T a).size ≤ 19 := T_bd (k := 18) (by decide) ha
  have sb : (T b).size ≤ 19 := T_bd (k := 18) (by decide) hb
  have da := D_short.2 ha
  have db := D_short.2 hb
  have A1 := Lib.hid (fun w => size_calls a w (by omega))
  have B1 := Lib.hid (fun w => size_calls b w (by omega))
  have A2 := Lib.hid (fun w => number_calls a w ha)
  have B2 := Lib.hid (fun w => number_calls b w hb)
  have da2 : ((D a.natAbs).size : Int) ≤ 18 := by omega
  have db2 : ((D b.natAbs).size : Int) ≤ 18 := by omega
  clear sa sb ha hb
  generalize D a.natAbs = x at *
  generalize D b.natAbs = y at *
  generalize T a = s at *
  generalize T b = t at *
  go_enter Tryz.func136, Tryz.ntmps136
  go_wp2_with (go_at_call 135; fail)
  refine (A1.out _).mono ?_
  rintro e w1 ⟨rfl, rfl⟩
  go_wp2_with (go_at_call 135; fail)
  refine (B1.out _).mono ?_
  rintro e w1 ⟨rfl, rfl⟩
  go_wp2_with (go_at_call 162; fail)
  refine (A2.out _).mono ?_
  rintro e w1 ⟨rfl, rfl⟩
  go_wp2_with (go_at_call 162; fail)
  refine (B2.out _).mono ?_
  rintro e w1 ⟨rfl, rfl⟩
  go_wp2
  go_returns
  exact ⟨rfl, rfl⟩
theorem brief_no (a b : Int) (w : World) (h : ¬ (a.natAbs < 10 ^ 18 ∧ b.natAbs < 10 ^ 18)) (sa : (T a).size ≤ 1000000000) (sb : (T b).size ≤ 1000000000) :
    Calls Tryz.prog 136 #[.string (T a), .string (T b)] w fun e w' => e = .returned (.tuple #[.int .i64 0, .int .i64 0, .bool false]) ∧ w' = w := by
  have A1 := Lib.hid (fun w => size_calls a w (by omega))
  have B1 := Lib.hid (fun w => size_calls b w (by omega))
  rw [← D_short, ← D_short] at h
  have xa : (D a.natAbs).size ≤ 1000000000 := Nat.le_trans (D_natAbs_size a).1 sa
  have xb : (D b.natAbs).size ≤ 1000000000 := Nat.le_trans (D_natAbs_size b).1 sb
  clear sa sb
  generalize D a.natAbs = x at *
  generalize D b.natAbs = y at *
  generalize T a = s at *
  generalize T b = t at *
  by_cases h1 : 18 < x.size
  · have h1' : (18 : Int) < x.size := by omega
    clear h h1
    go_enter Tryz.func136, Tryz.ntmps136
    go_wp2_with (go_at_call 135; fail)
    refine (A1.out _).mono ?_
    rintro e w1 ⟨rfl, rfl⟩
    go_wp2
    go_returns
    exact ⟨rfl, rfl⟩
  · have h1' : (x.size : Int) ≤ 18 := by omega
    have h2' : (18 : Int) < y.size := by omega
    clear h h1
    go_enter Tryz.func136, Tryz.ntmps136
    go_wp2_with (go_at_call 135; fail)
    refine (A1.out _).mono ?_
    rintro e w1 ⟨rfl, rfl⟩
    go_wp2_with (go_at_call 135; fail)
    refine (B1.out _).mono ?_
    rintro e w1 ⟨rfl, rfl⟩
    go_wp2
    go_returns
    exact ⟨rfl, rfl⟩
end Go.Proofs.YtdkfebfedfemaaaGreatDoor
set_option linter.unusedVariables false
set_option linter.unusedSimpArgs false
namespace Go.Proofs.YtdkfebfedfemaaaGreatDoor
open Go.RowKit Go.Mlab

def RPartedPost (a b : Int) (w : World) (e : Ending) (w' : World) : Prop := e = .returned (.tuple #[.string (T (a.fdiv b)), .string (T (a - a.fdiv b * b))]) ∧ Below w.heap.size w w'
set_option maxRecDepth 100000 in
set_option maxHeartbeats 1000000 in
theorem rparted_small (a b : Int) (w : World) (ha : a.natAbs < 10 ^ 18) (hb : b.natAbs < 10 ^ 18) (h0 : b ≠ 0) :
    Calls Tryz.prog 103 #[.string (T a), .string (T b)] w (RPartedPost a b w) := by
  have HA := Lib.hid (fun w => brief_yes a b w ha hb)
  have hF := tdiv_floor (a := a) h0
  have hq : -1000000000000000000 ≤ a.tdiv b ∧ a.tdiv b ≤ 1000000000000000000 := by
    have k1 : (a.tdiv b).natAbs = a.natAbs / b.natAbs := Int.natAbs_tdiv a b
    have k2 := Nat.div_le_self a.natAbs b.natAbs
    omega
  have hr : -1000000000000000000 ≤ a.tmod b ∧ a.tmod b ≤ 1000000000000000000 := by
    have k1 : (a.tmod b).natAbs = a.natAbs % b.natAbs := Int.natAbs_tmod a b
    have k2 := Nat.mod_le a.natAbs b.natAbs
    omega
  have hfits : -2000000000000000000 ≤ a.fdiv b ∧ a.fdiv b ≤ 2000000000000000000 ∧ -2000000000000000000 ≤ a - a.fdiv b * b ∧ a - a.fdiv b * b ≤ 2000000000000000000 := by
    by_cases g : (a.tmod b ≠ 0 ∧ (decide (a.tmod b < 0) != decide (b < 0)) = true)
    · have := hF.1 g; omega
    · have := hF.2 g; omega
  have HR := Lib.hid (fun w => rof_calls (a.fdiv b) w (by omega))
  have HR2 := Lib.hid (fun w => rof_calls (a - a.fdiv b * b) w (by omega))
  unfold RPartedPost
  have wr : IntKind.i64.wrap (a.tmod b) = a.tmod b := Go.IntWalk.i64_in _ ⟨by omega, by omega⟩
  have wq : wrap64 ((a - (a - a.fdiv b * b)).tdiv b) = a.fdiv b := by
    rw [show a - (a - a.fdiv b * b) = a.fdiv b * b by omega, Int.mul_tdiv_cancel _ h0]
    exact Go.IntWalk.wrap64_in _ ⟨by omega, by omega⟩
  have wq2 : (a - (a - a.fdiv b * b)).tdiv b = a.fdiv b := by
    rw [show a - (a - a.fdiv b * b) = a.fdiv b * b by omega, Int.mul_tdiv_cancel _ h0]
  have a1 : -1000000000000000000 ≤ a ∧ a ≤ 1000000000000000000 := by omega
  have b1 : -1000000000000000000 ≤ b ∧ b ≤ 1000000000000000000 := by omega
  generalize a - a.fdiv b * b = rest at *
  generalize a.fdiv b = quo at *
  clear ha hb
  generalize T a = s at *
  generalize T b = t at *
  by_cases g0 : a.tmod b = 0
  · obtain ⟨hq2, hr2⟩ := hF.2 (fun h => h.1 g0)
    have hr3 : rest = 0 := hr2.symm.trans g0
    clear hF hq hr hq2 hr2
    subst hr3
    rw [Int.sub_zero] at wq wq2
    go_enter Tryz.func103, Tryz.ntmps103
    go_wp2_with (go_at_call 136; refine (HA.out _).mono ?_; rintro e w1 ⟨rfl, rfl⟩)
    go_wp2_with (go_at_call 69; fail)
    first | rw [wq] | rw [wq2] | skip
    refine (HR.out _).mono ?_
    rintro e w3 ⟨rfl, hw3⟩
    go_wp2_with (go_at_call 69; fail)
    refine (HR2.out _).mono ?_
    rintro e w4 ⟨rfl, hw4⟩
    go_wp2
    go_returns
    exact ⟨rfl, below_below hw3 hw3.size hw4⟩
  · have g0' : (a.tmod b != 0) = true := by simpa using g0
    by_cases g1 : a.tmod b < 0 <;> by_cases g2 : b < 0
    · obtain ⟨hq2, hr2⟩ := hF.2 (fun h => by simp [g1, g2] at h)
      clear hF hq
      have d1 := decide_eq_true g1
      have d2 := decide_eq_true g2
      rw [hr2] at g0 g0' g1 hr wr
      go_enter Tryz.func103, Tryz.ntmps103
      go_wp2_with (go_at_call 136; refine (HA.out _).mono ?_; rintro e w1 ⟨rfl, rfl⟩)
      go_wp2_with (go_at_call 69; fail)
      first | rw [wq] | rw [wq2] | skip
      refine (HR.out _).mono ?_
      rintro e w3 ⟨rfl, hw3⟩
      go_wp2_with (go_at_call 69; fail)
      refine (HR2.out _).mono ?_
      rintro e w4 ⟨rfl, hw4⟩
      go_wp2
      go_returns
      exact ⟨rfl, below_below hw3 hw3.size hw4⟩
    · obtain ⟨hq2, hr2⟩ := hF.1 ⟨g0, by simp [g1, g2]⟩
      clear hF hq hq2
      have d1 := decide_eq_true g1
      have d2 := decide_eq_false g2
      subst hr2
      go_enter Tryz.func103, Tryz.ntmps103
      go_wp2_with (go_at_call 136; refine (HA.out _).mono ?_; rintro e w1 ⟨rfl, rfl⟩)
      go_wp2_with (go_at_call 69; fail)
      first | rw [wq] | rw [wq2] | skip
      refine (HR.out _).mono ?_
      rintro e w3 ⟨rfl, hw3⟩
      go_wp2_with (go_at_call 69; fail)
      refine (HR2.out _).mono ?_
      rintro e w4 ⟨rfl, hw4⟩
      go_wp2
      go_returns
      exact ⟨rfl, below_below hw3 hw3.size hw4⟩
    · obtain ⟨hq2, hr2⟩ := hF.1 ⟨g0, by simp [g1, g2]⟩
      clear hF hq hq2
      have d1 := decide_eq_false g1
      have d2 := decide_eq_true g2
      subst hr2
      go_enter Tryz.func103, Tryz.ntmps103
      go_wp2_with (go_at_call 136; refine (HA.out _).mono ?_; rintro e w1 ⟨rfl, rfl⟩)
      go_wp2_with (go_at_call 69; fail)
      first | rw [wq] | rw [wq2] | skip
      refine (HR.out _).mono ?_
      rintro e w3 ⟨rfl, hw3⟩
      go_wp2_with (go_at_call 69; fail)
      refine (HR2.out _).mono ?_
      rintro e w4 ⟨rfl, hw4⟩
      go_wp2
      go_returns
      exact ⟨rfl, below_below hw3 hw3.size hw4⟩
    · obtain ⟨hq2, hr2⟩ := hF.2 (fun h => by simp [g1, g2] at h)
      clear hF hq
      have d1 := decide_eq_false g1
      have d2 := decide_eq_false g2
      rw [hr2] at g0 g0' g1 hr wr
      go_enter Tryz.func103, Tryz.ntmps103
      go_wp2_with (go_at_call 136; refine (HA.out _).mono ?_; rintro e w1 ⟨rfl, rfl⟩)
      go_wp2_with (go_at_call 69; fail)
      first | rw [wq] | rw [wq2] | skip
      refine (HR.out _).mono ?_
      rintro e w3 ⟨rfl, hw3⟩
      go_wp2_with (go_at_call 69; fail)
      refine (HR2.out _).mono ?_
      rintro e w4 ⟨rfl, hw4⟩
      go_wp2
      go_returns
      exact ⟨rfl, below_below hw3 hw3.size hw4⟩
end Go.Proofs.YtdkfebfedfemaaaGreatDoor
