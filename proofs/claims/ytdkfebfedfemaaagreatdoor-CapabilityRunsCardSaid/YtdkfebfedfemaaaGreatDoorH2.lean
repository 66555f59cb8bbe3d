/- The reference's Histogram. -/
import Derived.Test.YtdkfebfedfemaaaGreatDoorH1
set_option linter.unusedVariables false
set_option linter.unusedSimpArgs false
namespace Go.Proofs.YtdkfebfedfemaaaGreatDoor
open Go.RowKit Go.Mlab

theorem hisq_no (xs : List Int) (lo wd bins er : Int) (w w' : World) (h : hisE xs lo wd bins = er) (h0 : er ≠ 0) (k : Below w.heap.size w w') : HisQ xs lo wd bins w (.returned (.tuple #[.slice none 0 0, .int .i64 0, .int .i64 0, .int .i64 er])) w' := by
  unfold HisQ hisL hisM hisN
  rw [h, if_neg h0, if_neg h0, if_neg h0]
  exact ⟨none, 0, rfl, ⟨Nat.le_refl _, by simp, .inl rfl⟩, k⟩
set_option maxRecDepth 100000 in
set_option maxHeartbeats 4000000 in
theorem ref_his_calls (A : Option Addr) (c : Nat) (xs : List Int) (lo wd bins : Int) (w : World) (hx : IntsAt w A c xs) :
    Calls Tryz.prog 25 #[.slice A xs.length c, .int .i64 lo, .int .i64 wd, .int .i64 bins] w (HisQ xs lo wd bins w) := by
  have HC := Lib.hid (ref_check_calls A c xs w hx)
  have HI := Lib.hid (fun w => value_calls lo w)
  have HX := Lib.hid hx
  have hbig := hx.big
  clear hx
  by_cases hs0 : serE xs = 0
  · rw [hs0] at HC
    cases hi : inB lo with
    | false =>
      rw [hi] at HI
      have hfin := Lib.hid (hisq_no xs lo wd bins 2 w w (by unfold hisE; rw [hs0, if_neg (by decide), if_pos (by simp [*])]) (by decide) (Below.refl _ _))
      go_enter Tryz.func25, Tryz.ntmps25
      go_wp2_with (go_at_call 19; refine (HC.out).mono ?_; rintro e w1 ⟨rfl, rfl⟩)
      go_wp2_with (go_at_call 50; refine (HI.out _).mono ?_; rintro e w1 ⟨rfl, rfl⟩)
      go_returns
      exact hfin.out
    | true =>
     rw [hi] at HI
     have hlo := inB_iff.1 hi
     by_cases b1 : wd < 1
     · have hfin := Lib.hid (hisq_no xs lo wd bins 2 w w (by unfold hisE; rw [hs0, if_neg (by decide), if_pos (by simp [*])]) (by decide) (Below.refl _ _))
       go_enter Tryz.func25, Tryz.ntmps25
       go_wp2_with (go_at_call 19; refine (HC.out).mono ?_; rintro e w1 ⟨rfl, rfl⟩)
       go_wp2_with (go_at_call 50; refine (HI.out _).mono ?_; rintro e w1 ⟨rfl, rfl⟩)
       go_returns
       exact hfin.out
     by_cases b2 : 1048576 < wd
     · have hfin := Lib.hid (hisq_no xs lo wd bins 2 w w (by unfold hisE; rw [hs0, if_neg (by decide), if_pos (by simp [*])]) (by decide) (Below.refl _ _))
       go_enter Tryz.func25, Tryz.ntmps25
       go_wp2_with (go_at_call 19; refine (HC.out).mono ?_; rintro e w1 ⟨rfl, rfl⟩)
       go_wp2_with (go_at_call 50; refine (HI.out _).mono ?_; rintro e w1 ⟨rfl, rfl⟩)
       go_returns
       exact hfin.out
     by_cases b3 : bins < 1
     · have hfin := Lib.hid (hisq_no xs lo wd bins 2 w w (by unfold hisE; rw [hs0, if_neg (by decide), if_pos (by simp [*])]) (by decide) (Below.refl _ _))
       go_enter Tryz.func25, Tryz.ntmps25
       go_wp2_with (go_at_call 19; refine (HC.out).mono ?_; rintro e w1 ⟨rfl, rfl⟩)
       go_wp2_with (go_at_call 50; refine (HI.out _).mono ?_; rintro e w1 ⟨rfl, rfl⟩)
       go_returns
       exact hfin.out
     by_cases b4 : 256 < bins
     · have hfin := Lib.hid (hisq_no xs lo wd bins 2 w w (by unfold hisE; rw [hs0, if_neg (by decide), if_pos (by simp [*])]) (by decide) (Below.refl _ _))
       go_enter Tryz.func25, Tryz.ntmps25
       go_wp2_with (go_at_call 19; refine (HC.out).mono ?_; rintro e w1 ⟨rfl, rfl⟩)
       go_wp2_with (go_at_call 50; refine (HI.out _).mono ?_; rintro e w1 ⟨rfl, rfl⟩)
       go_returns
       exact hfin.out
     obtain ⟨nb, rfl⟩ : ∃ nb : Nat, bins = nb := ⟨bins.toNat, by omega⟩
     have hE : hisE xs lo wd nb = 0 := by unfold hisE; rw [hs0, if_neg (by decide), if_neg (by rw [hi]; simp; omega)]
     have hv := (serE_ok hs0).2.2
     have hfin := Lib.hid (fun b w' (h2 : IntRow w' b (binsL lo wd nb xs)) (h3 : Below w.heap.size w w') =>
       show HisQ xs lo wd nb w (.returned (.tuple #[.slice (some ⟨b, 0, none⟩) nb nb, .int .i64 (cnt lo wd nb xs 0), .int .i64 (cnt lo wd nb xs (nb + 1)), .int .i64 0])) w' by
         unfold HisQ hisL hisM hisN
         rw [hE, if_pos rfl, if_pos rfl, if_pos rfl, Int.toNat_natCast]
         exact ⟨some ⟨b, 0, none⟩, nb, by rw [binsL_len], ⟨by rw [binsL_len]; exact Nat.le_refl _, by rw [binsL_len]; omega, .inr ⟨b, 0, rfl, intRow_lt h2, fun j hj => by rw [Nat.zero_add]; exact intRow_cell h2 hj⟩⟩, h3⟩)
     have HV := Lib.hid hv
     clear hE hs0 hi hv
     obtain ⟨n, hln⟩ : ∃ n, xs.length = n := ⟨_, rfl⟩
     rw [hln] at hbig HC ⊢
     have Hn := Lib.hid hln
     clear hln
     go_enter Tryz.func25, Tryz.ntmps25
     go_wp2_with (go_at_call 19; refine (HC.out).mono ?_; rintro e w1 ⟨rfl, rfl⟩)
     obtain ⟨i0, hi0, hz0, hz1, hz2⟩ := int_info
     go_wp2_with (first | (go_at_call 50; refine (HI.out _).mono ?_; rintro e w2 ⟨rfl, rfl⟩) | (at_make; refine wpList_make_full _ rfl (.tmp 42) (.tmp 42) 22 rfl _ 3 i0 (.int .i64 0) 1 Tryz.underlying22 hi0 hz0 hz1 .i64 .i64 _ _ nb rfl rfl rfl rfl (by rw [hz2]; omega) (by unfold maxLen; omega) (Nat.le_refl _) ?_; intro w0 hown hgrow))
     rw [make_zero, ← binsL_nil lo wd nb] at hown
     have hrow := intRow_owned hown (binsL_len _ _ _ _) (by omega)
     have hB0 : Below w2.heap.size w2 w0 := (Below.refl _ w2).grown hgrow (Nat.le_refl _) (fun k h => by cases h)
     obtain ⟨B, hBe⟩ : ∃ B, w2.heap.size = B := ⟨_, rfl⟩
     have G0 := Lib.hid (show IntRow w0 B (binsL lo wd nb []) ∧ Below w2.heap.size w2 w0 ∧ w2.heap.size ≤ B by rw [← hBe]; exact ⟨hrow.1, hB0, Nat.le_refl _⟩)
     rw [hBe]
     clear hown hgrow hrow hB0 hBe hi0 hz0 hz1 hz2 HC HI
     go_wp2
     go_loopg [14, 15, 16] n (fun k v14 v15 v16 wr => ∃ i : Nat, v16 = .int .i64 i ∧ k + i = n ∧ v14 = .int .i64 (cnt lo wd nb (xs.take i) 0) ∧ v15 = .int .i64 (cnt lo wd nb (xs.take i) (nb + 1)) ∧ Hid (IntRow wr B (binsL lo wd nb (xs.take i)) ∧ Below w2.heap.size w2 wr ∧ w2.heap.size ≤ B))
     case atStart => exact ⟨0, rfl, by omega, rfl, rfl, G0.out⟩
     case round =>
       obtain ⟨i, rfl, hi, rfl, rfl, hr⟩ := hrel
       have hx0 := cnt_bd lo wd nb (xs.take i) 0
       have hx1 := cnt_bd lo wd nb (xs.take i) (nb + 1)
       have htl : (xs.take i).length ≤ n := by rw [← Hn.out]; exact List.length_take_le' _ _
       cases gk with
       | zero =>
         obtain rfl : i = n := by omega
         clear hi
         have e : xs.take i = xs := by rw [← Hn.out, List.take_length]
         rw [e] at hr ⊢
         have HF := Lib.hid (hfin.out B wr hr.out.1 hr.out.2.1)
         clear e hx0 hx1 htl
         generalize cnt lo wd nb xs 0 = x0 at *
         generalize cnt lo wd nb xs (nb + 1) = x1 at *
         go_wp2
         go_returns
         exact HF.out
       | succ m =>
         have hin : i < n := by omega
         have hin2 : (i : Int) < n := by omega
         have hlen : i < xs.length := by rw [Hn.out]; exact hin
         obtain ⟨b, o, rfl, hc⟩ := ints_get (ints_below HX.out hr.out.2.1) hlen
         have hvr := HV.out _ (getD_mem hlen)
         have hsn : xs.take (i + 1) = xs.take i ++ [xs.getD i 0] := by rw [List.getD_eq_getElem?_getD]; exact take_snoc' hlen
         have ha0 : -4096 ≤ cnt lo wd nb (xs.take i) 0 ∧ cnt lo wd nb (xs.take i) 0 ≤ 4611686018427387904 := by omega
         have ha1 : -4096 ≤ cnt lo wd nb (xs.take i) (nb + 1) ∧ cnt lo wd nb (xs.take i) (nb + 1) ≤ 4611686018427387904 := by omega
         by_cases hlv : xs.getD i 0 < lo
         · have hbin : bin lo wd nb (xs.getD i 0) = 0 := by unfold bin; rw [if_neg (by omega)]
           have HL := Lib.hid (show cnt lo wd nb (xs.take (i + 1)) 0 = cnt lo wd nb (xs.take i) 0 + 1 by rw [hsn]; exact cnt_snoc_eq _ _ _ _ _ 0 hbin)
           have HM := Lib.hid (show cnt lo wd nb (xs.take (i + 1)) (nb + 1) = cnt lo wd nb (xs.take i) (nb + 1) by rw [hsn]; exact cnt_snoc_ne _ _ _ _ _ _ (by rw [hbin]; omega))
           have HN := Lib.hid (show binsL lo wd nb (xs.take i) = binsL lo wd nb (xs.take (i + 1)) by rw [hsn]; exact binsL_snoc_out lo wd nb _ _ (k := 0) hbin (.inl rfl))
           clear hbin hsn hx0 hx1 htl
           generalize cnt lo wd nb (xs.take i) 0 = x0 at *
           generalize cnt lo wd nb (xs.take i) (nb + 1) = x1 at *
           generalize xs.getD i 0 = v at *
           go_wp2
           go_roundg m
           case measure => omega
           case rel => exact ⟨i + 1, by go_num, by omega, by rw [HL.out], by rw [HM.out], ⟨by rw [← HN.out]; exact hr.out.1, hr.out.2.1, hr.out.2.2⟩⟩
         · have hlv2 : lo ≤ xs.getD i 0 := by omega
           have hq0 : 0 ≤ (xs.getD i 0 - lo) / wd := Int.ediv_nonneg (by omega) (by omega)
           have hq1 : (xs.getD i 0 - lo) / wd ≤ xs.getD i 0 - lo := Int.ediv_le_self _ (by omega)
           obtain ⟨q, hq⟩ : ∃ q : Nat, (xs.getD i 0 - lo) / wd = q := ⟨((xs.getD i 0 - lo) / wd).toNat, by omega⟩
           by_cases hqn : nb ≤ q
           · have hbin : bin lo wd nb (xs.getD i 0) = (nb + 1 : Nat) := by unfold bin; rw [if_pos hlv2, hq]; omega
             have HL := Lib.hid (show cnt lo wd nb (xs.take (i + 1)) 0 = cnt lo wd nb (xs.take i) 0 by rw [hsn]; exact cnt_snoc_ne _ _ _ _ _ 0 (by rw [hbin]; omega))
             have HM := Lib.hid (show cnt lo wd nb (xs.take (i + 1)) (nb + 1) = cnt lo wd nb (xs.take i) (nb + 1) + 1 by rw [hsn]; exact cnt_snoc_eq _ _ _ _ _ _ hbin)
             have HN := Lib.hid (show binsL lo wd nb (xs.take i) = binsL lo wd nb (xs.take (i + 1)) by rw [hsn]; exact binsL_snoc_out lo wd nb _ _ (k := nb + 1) hbin (.inr rfl))
             have hge : (nb : Int) ≤ (xs.getD i 0 - lo) / wd := by omega
             clear hbin hsn hx0 hx1 htl hlv hq
             generalize cnt lo wd nb (xs.take i) 0 = x0 at *
             generalize cnt lo wd nb (xs.take i) (nb + 1) = x1 at *
             generalize xs.getD i 0 = v at *
             go_wp2
             go_roundg m
             case measure => omega
             case rel => exact ⟨i + 1, by go_num, by omega, by rw [HL.out], by rw [HM.out], ⟨by rw [← HN.out]; exact hr.out.1, hr.out.2.1, hr.out.2.2⟩⟩
           · have hqn2 : q < nb := by omega
             have hbin : bin lo wd nb (xs.getD i 0) = (q + 1 : Nat) := by unfold bin; rw [if_pos hlv2, hq]; omega
             have HL := Lib.hid (show cnt lo wd nb (xs.take (i + 1)) 0 = cnt lo wd nb (xs.take i) 0 by rw [hsn]; exact cnt_snoc_ne _ _ _ _ _ 0 (by rw [hbin]; omega))
             have HM := Lib.hid (show cnt lo wd nb (xs.take (i + 1)) (nb + 1) = cnt lo wd nb (xs.take i) (nb + 1) by rw [hsn]; exact cnt_snoc_ne _ _ _ _ _ _ (by rw [hbin]; omega))
             have hcl := binsL_get lo wd nb (xs.take i) hqn2
             have hcb := cnt_bd lo wd nb (xs.take i) (q + 1)
             have HS := Lib.hid (binsL_snoc_in lo wd nb (xs.take i) (xs.getD i 0) hbin hqn2)
             have c1 := intRow_cell hr.out.1 (i := q) (by rw [binsL_len]; exact hqn2)
             have f1 := intRow_frozen hr.out.1 q
             have hcr : -4096 ≤ (binsL lo wd nb (xs.take i)).getD q 0 ∧ (binsL lo wd nb (xs.take i)).getD q 0 ≤ 4611686018427387904 := by rw [hcl]; omega
             have HN := Lib.hid (fun v (h : v = (binsL lo wd nb (xs.take i)).getD q 0 + 1) => show IntRow (wr.setCell ⟨B, q, none⟩ (.int .i64 v)) B (binsL lo wd nb (xs.take (i + 1))) by
               rw [hsn, ← HS.out, h]; exact intRow_set hr.out.1 q _)
             clear hcl hcb HS hbin hsn hx0 hx1 htl hlv
             have hlt1 : (q : Int) < nb := by omega
             generalize (binsL lo wd nb (xs.take i)).getD q 0 = cv at *
             generalize cnt lo wd nb (xs.take i) 0 = x0 at *
             generalize cnt lo wd nb (xs.take i) (nb + 1) = x1 at *
             generalize xs.getD i 0 = v at *
             go_wp2
             go_roundg m
             case measure => omega
             case rel => exact ⟨i + 1, by go_num, by omega, by rw [HL.out], by rw [HM.out], ⟨HN.out _ rfl, hr.out.2.1.setCell (p := ⟨B, _, none⟩) hr.out.2.2 _, hr.out.2.2⟩⟩
  · have hb : (serE xs != 0) = true := by simpa using hs0
    have hE : hisE xs lo wd bins = serE xs := by unfold hisE; rw [if_pos hs0]
    have hfin := Lib.hid (hisq_no xs lo wd bins (serE xs) w w hE hs0 (Below.refl _ _))
    clear hE hs0
    generalize serE xs = ev at *
    go_enter Tryz.func25, Tryz.ntmps25
    go_wp2_with (go_at_call 19; refine (HC.out).mono ?_; rintro e w1 ⟨rfl, rfl⟩)
    go_returns
    exact hfin.out
/-- CapabilityCounts. -/
theorem counts_calls (A : Option Addr) (c : Nat) (xs : List Int) (lo hi bins : Int) (w : World) (hx : IntsAt w A c xs) (hT : Tab w) (hb : -9223372036854775808 ≤ bins ∧ bins ≤ 9223372036854775807) :
    Calls Tryz.prog 5 #[.slice A xs.length c, .agg #[.int .i64 lo, .int .i64 hi], .int .i64 bins] w (LawPost w) := by
  have H0 := Lib.hid (LimW.new hx lo hi)
  have HF := Lib.hid (fun w => few_calls A c xs.length w hx.big)
  have HAw := Lib.hid (fun w1 (k : Below w.heap.size w w1) => awake_calls w1 (tab_below hT k))
  have HP := Lib.hid (fun W (k : IntsAt W A c xs) => his_q A c xs lo hi bins W k)
  have HR := Lib.hid (fun W (k : IntsAt W A c xs) => ref_his_calls A c xs lo hi bins W k)
  clear hx hT hb
  unfold HisQ at HP HR
  obtain ⟨len, hlen⟩ : ∃ len, xs.length = len := ⟨_, rfl⟩
  rw [hlen] at HF HP HR ⊢
  clear hlen
  generalize hys : hisL xs lo hi bins = ys at *
  generalize hisM xs lo hi bins = x0 at *
  generalize hisN xs lo hi bins = x1 at *
  generalize hisE xs lo hi bins = er at *
  clear hys
  cases hf : fewB len with
  | false =>
    rw [hf] at HF
    clear hf HP HR
    go_enter Tryz.func5, Tryz.ntmps5
    go_wp2_with (go_at_call 10; refine (HF.out _).mono ?_; rintro e w1 ⟨rfl, rfl⟩)
    go_wp2_with (go_at_call 11; refine (HAw.out _ H0.out.below).mono ?_; rintro e w2 ⟨rfl, hw2⟩)
    go_ret
    exact ⟨rfl, below_below H0.out.below H0.out.below.size hw2⟩
  | true =>
    rw [hf] at HF
    clear hf
    go_enter Tryz.func5, Tryz.ntmps5
    go_wp2_with (go_at_call 10; fail)
    refine (HF.out _).mono ?_
    rintro e w1 ⟨rfl, rfl⟩
    have l1 := H0.out.lo
    have k1 := H0.out.hi
    go_wp2_with (go_at_call 24; fail)
    refine (HP.out _ H0.out.ints).mono ?_
    rintro e w2 ⟨A2, c2, rfl, hI2, hw2⟩
    have H2 := Lib.hid (H0.out.next hw2)
    have HI2 := Lib.hid hI2
    clear hw2 hI2 l1 k1
    have l2 := H2.out.lo
    have k2 := H2.out.hi
    go_wp2_with (go_at_call 25; fail)
    refine (HR.out _ H2.out.ints).mono ?_
    rintro e w3 ⟨A3, c3, rfl, hI3, hw3⟩
    have H3 := Lib.hid (H2.out.next hw3)
    have HI3 := Lib.hid (And.intro (ints_below HI2.out hw3) hI3)
    clear hw3 hI3 HI2 l2 k2 H2
    go_wp2_with (go_at_call 11; fail)
    refine (HAw.out _ H3.out.below).mono ?_
    rintro e w4 ⟨rfl, hw4⟩
    have H4 := Lib.hid (H3.out.next hw4)
    have HI4 := Lib.hid (And.intro (ints_below HI3.out.1 hw4) (ints_below HI3.out.2 hw4))
    clear hw4 HI3 H3
    go_wp2_with (go_at_call 26; fail)
    refine (same_calls _ _ _ _ _ ys _ rfl HI4.out.1 HI4.out.2).mono ?_
    rintro e w5 ⟨rfl, hw5⟩
    have HB := Lib.hid (below_below H4.out.below H4.out.below.size hw5)
    clear hw5
    go_wp2
    go_ret
    exact ⟨rfl, HB.out⟩
end Go.Proofs.YtdkfebfedfemaaaGreatDoor
