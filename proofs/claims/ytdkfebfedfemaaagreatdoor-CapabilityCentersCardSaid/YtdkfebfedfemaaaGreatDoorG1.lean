/- CapabilityGroups walked. -/
import Derived.Test.YtdkfebfedfemaaaGreatDoorG0
import Derived.Test.YtdkfebfedfemaaaGreatDoorO5
set_option linter.unusedVariables false
set_option linter.unusedSimpArgs false
namespace Go.Proofs.YtdkfebfedfemaaaGreatDoor
open Go.RowKit Go.Mlab

theorem max_calls (b o c n : Nat) (xs : List Int) (W : World) (hx : IntsAt W (some ⟨b, o, none⟩) c xs) (hn : xs.length = n) (h0 : 0 < n) :
    Calls Tryz.prog 36 #[.slice (some ⟨b, o, none⟩) n c] W fun e w' => e = .returned (.int .i64 (Lib.maxOf xs)) ∧ w' = W := by
  have hb := hx.big
  have h := slices_Max_int b o n c xs W h0 (by omega) (by omega) (fun j hj => by
    obtain ⟨b', o', e, hc⟩ := ints_get hx hj
    cases e; exact hc)
  rwa [List.take_of_length_le (by omega)] at h
theorem min_calls (b o c n : Nat) (xs : List Int) (W : World) (hx : IntsAt W (some ⟨b, o, none⟩) c xs) (hn : xs.length = n) (h0 : 0 < n) :
    Calls Tryz.prog 37 #[.slice (some ⟨b, o, none⟩) n c] W fun e w' => e = .returned (.int .i64 (Lib.minOf xs)) ∧ w' = W := by
  have hb := hx.big
  have h := slices_Min_int b o n c xs W h0 (by omega) (by omega) (fun j hj => by
    obtain ⟨b', o', e, hc⟩ := ints_get hx hj
    cases e; exact hc)
  rwa [List.take_of_length_le (by omega)] at h
theorem eq_one (b o c : Nat) (x : Int) (w : World) (h : IntsAt w (some ⟨b, o, none⟩) c [x]) :
    Calls Tryz.prog 35 #[.slice (some ⟨b, o, none⟩) 1 c, .slice (some ⟨w.heap.size, 0, none⟩) 1 1] (w.alloc (.cells #[.int .i64 x] 3)) fun e w' => e = .returned (.bool true) ∧ Below w.heap.size w w' := by
  have hA : Below w.heap.size w (w.alloc (.cells #[.int .i64 x] 3)) := (Below.refl _ w).alloc (Nat.le_refl _) _
  have hN : IntsAt (w.alloc (.cells #[.int .i64 x] 3)) (some ⟨w.heap.size, 0, none⟩) 1 [x] := ⟨by simp, by simp, .inr ⟨_, _, rfl, by simp, fun j hj => by
    obtain rfl : j = 0 := by simpa using hj
    rw [cell_of_row _ _ _ _ _ _ (alloc_new w _)]; rfl⟩⟩
  refine (eq_same b o c w.heap.size 0 1 1 [x] _ rfl (ints_below h hA) hN).mono ?_
  rintro e w' ⟨rfl, hw⟩
  exact ⟨rfl, below_below hA hA.size hw⟩
theorem ints_some {w : World} {A : Option Addr} {c : Nat} {xs : List Int} (h : IntsAt w A c xs) (h0 : 0 < xs.length) : ∃ b o, A = some ⟨b, o, none⟩ := by
  obtain ⟨b, o, e, _⟩ := ints_get h h0
  exact ⟨b, o, e⟩
theorem spr_all (A : Option Addr) (c n : Nat) (xs : List Int) (W : World) (hx : IntsAt W A c xs) (hT : Tab W) (hr : rightB xs = true) (hn : xs.length = n) :
    Calls Tryz.prog 29 #[.slice A n c, .int .i64 n] W fun e w' => ∃ b o c', e = .returned (.tuple #[.slice (some ⟨b, o, none⟩) 1 c', .string (T (wid xs)), .int .i64 0]) ∧ IntsAt w' (some ⟨b, o, none⟩) c' [wid xs] ∧ Below W.heap.size W w' := by
  have h1 := rightB_iff.1 hr
  have hE := right_spr hr (k := xs.length) (by omega) (Nat.le_refl _)
  have h := spread_calls A c xs xs.length W hx hT
  rw [hn] at h hE
  unfold sprV sprT at h
  rw [hE, if_pos rfl, if_pos rfl, Int.toNat_natCast, ← hn, sprL_all (by omega), avg_one, Q_int] at h
  rw [← hn]
  refine h.mono ?_
  rintro e w' ⟨A', c', he, hI, hB⟩
  obtain ⟨b, o, rfl⟩ := ints_some hI (by simp)
  exact ⟨b, o, c', he, hI, hB⟩
theorem spr_k (A : Option Addr) (c n k m : Nat) (xs : List Int) (W : World) (hx : IntsAt W A c xs) (hT : Tab W) (hr : rightB xs = true) (hn : xs.length = n) (h1 : 2 ≤ k) (h2 : k ≤ n) (hm : n / k = m) :
    Calls Tryz.prog 29 #[.slice A n c, .int .i64 k] W fun e w' => ∃ b o c', e = .returned (.tuple #[.slice (some ⟨b, o, none⟩) m c', .string (Q (avg (sprL xs k m))), .int .i64 0]) ∧ IntsAt w' (some ⟨b, o, none⟩) c' (sprL xs k m) ∧ Below W.heap.size W w' := by
  have hE := right_spr hr (k := k) h1 (by omega)
  have h := spread_calls A c xs k W hx hT
  unfold sprV sprT at h
  rw [hE, if_pos rfl, if_pos rfl, Int.toNat_natCast, hn, hm] at h
  refine h.mono ?_
  rintro e w' ⟨A', c', he, hI, hB⟩
  have hl : (sprL xs k m).length = m := by unfold sprL; simp
  have hm0 : 0 < m := by rw [← hm]; exact Nat.div_pos h2 (by omega)
  obtain ⟨b, o, rfl⟩ := ints_some hI (by omega)
  rw [hl] at he
  exact ⟨b, o, c', he, hI, hB⟩
theorem Qv_is0 {xs : List Int} (h : rightB xs = true) : ((Q (vari xs)).toList == [48]) = (wid xs == 0) := by
  have hr := rightB_iff.1 h
  have hv := vari_zero (xs := xs) (by omega)
  rw [Lib.toList_data]
  by_cases h0 : wid xs = 0
  · rw [hv.2 h0, h0, Q_zero]; rfl
  · rw [beq_eq_false_iff_ne.2 h0, ← Lib.toList_data]
    exact Q_is0 (fun e => h0 (hv.1 e))
theorem sum_bd {d : Int} : ∀ l : List Int, (∀ y ∈ l, 0 ≤ y ∧ y ≤ d) → 0 ≤ isum l ∧ isum l ≤ l.length * d
  | [], _ => by simp [isum]
  | y :: l, h => by
    have h1 := sum_bd l (fun z hz => h z (List.mem_cons_of_mem _ hz))
    have h2 := h y List.mem_cons_self
    have e3 : (((y :: l).length : Nat) : Int) * d = l.length * d + d := by rw [List.length_cons, Int.natCast_add, Int.add_mul]; omega
    rw [e3]
    simp only [isum]
    omega
set_option maxHeartbeats 2000000 in
theorem groups_no (A : Option Addr) (c : Nat) (xs : List Int) (u : Int) (w : World) (hx : IntsAt w A c xs) (hT : Tab w) (h : rightB xs = false) :
    Calls Tryz.prog 8 #[.slice A xs.length c, .int .u8 u] w (LawPost w) := by
  have HR := Lib.hid (right_calls A c xs _ hx)
  have HAw := Lib.hid (awake_calls w hT)
  rw [h] at HR
  clear h hx hT
  generalize xs.length = n at *
  go_enter Tryz.func8, Tryz.ntmps8
  go_wp2_with (go_at_call 31; refine (HR.out).mono ?_; rintro e w1 ⟨rfl, rfl⟩)
  go_wp2_with (go_at_call 11; refine (HAw.out).mono ?_; rintro e w2 ⟨rfl, hw2⟩)
  go_ret
  exact ⟨rfl, hw2⟩
set_option maxRecDepth 100000 in
set_option maxHeartbeats 8000000 in
theorem groups_yes (A : Option Addr) (c : Nat) (xs : List Int) (u : Int) (w : World) (hx : IntsAt w A c xs) (hT : Tab w) (h1 : rightB xs = true) (hu : 0 ≤ u ∧ u ≤ 255) :
    Calls Tryz.prog 8 #[.slice A xs.length c, .int .u8 u] w (LawPost w) := by
  have hr := rightB_iff.1 h1
  obtain ⟨b0, o0, rfl⟩ := ints_some hx (by omega)
  have HR := Lib.hid (right_calls _ c xs _ hx)
  rw [h1] at HR
  obtain ⟨n, hn⟩ : ∃ n, xs.length = n := ⟨_, rfl⟩
  have hk : (0 : Int) ≤ u % ((n : Int) - 1) ∧ u % ((n : Int) - 1) < n - 1 := ⟨Int.emod_nonneg _ (by omega), Int.emod_lt_of_pos _ (by omega)⟩
  obtain ⟨k, hk2⟩ : ∃ k : Nat, 2 + u % ((n : Int) - 1) = k := ⟨(2 + u % ((n : Int) - 1)).toNat, by omega⟩
  have hkb : 2 ≤ k ∧ k ≤ n := by omega
  have hn20 : n ≤ 20 := by omega
  obtain ⟨m, hm⟩ : ∃ m, n / k = m := ⟨_, rfl⟩
  have hm0 : 0 < m := by rw [← hm]; exact Nat.div_pos hkb.2 (by omega)
  have hmk : m * k ≤ n := by rw [← hm]; exact Nat.div_mul_le_self n k
  have hmn : m ≤ n := Nat.le_trans (Nat.le_mul_of_pos_right m (by omega)) hmk
  have HK := Lib.hid hk2
  have HM := Lib.hid (show (n : Int) / (k : Int) = m by rw [← hm]; rfl)
  have hd := wid_bd (l := xs) (by intro q; rw [q] at hr; simp at hr) (fun x hx => by have := hr.2.2 x hx; omega)
  have hd2 : wid xs ≤ 16000 := by
    have h0 : xs ≠ [] := by intro q; rw [q] at hr; simp at hr
    have a1 := maxOf_le h0 (fun x hx => (hr.2.2 x hx).2)
    have a2 := le_minOf h0 (fun x hx => (hr.2.2 x hx).1)
    unfold wid; omega
  have hM1 := maxOf_le (c := 8000) (l := xs) (by intro q; rw [q] at hr; simp at hr) (fun x hx => (hr.2.2 x hx).2)
  have hM2 := le_minOf (c := -8000) (l := xs) (by intro q; rw [q] at hr; simp at hr) (fun x hx => (hr.2.2 x hx).1)
  have hM3 := min_le_max (l := xs) (by intro q; rw [q] at hr; simp at hr)
  have HY := Lib.hid (show ∀ y ∈ sprL xs k m, 0 ≤ y ∧ y ≤ wid xs by
    intro y hy
    unfold sprL at hy
    obtain ⟨j, hj, rfl⟩ := List.mem_map.1 hy
    have hj := List.mem_range.1 hj
    refine wid_grp (by omega) ?_
    rw [hn]
    exact Nat.le_trans (Nat.mul_le_mul_right k (show j + 1 ≤ m by omega)) hmk)
  have hyl : (sprL xs k m).length = m := by unfold sprL; simp
  have HX := Lib.hid hx
  have HT := Lib.hid hT
  have HAw := Lib.hid (fun w1 (k : Below w.heap.size w w1) => awake_calls w1 (tab_below hT k))
  have HS1 := Lib.hid (fun W (k : Below w.heap.size w W) => spr_all _ c n xs W (ints_below hx k) (tab_below hT k) h1 hn)
  have HS2 := Lib.hid (fun W (q : Below w.heap.size w W) => spr_k _ c n k m xs W (ints_below hx q) (tab_below hT q) h1 hn hkb.1 hkb.2 hm)
  have HMx := Lib.hid (fun W (k : Below w.heap.size w W) => max_calls _ _ c n xs W (ints_below hx k) hn (by omega))
  have HMn := Lib.hid (fun W (k : Below w.heap.size w W) => min_calls _ _ c n xs W (ints_below hx k) hn (by omega))
  have HW := Lib.hid (show Lib.maxOf xs - Lib.minOf xs = wid xs from rfl)
  have HV := Lib.hid (fun W (k : Below w.heap.size w W) => show Calls Tryz.prog 14 #[.slice _ n c] W fun e w' => e = .returned (.tuple #[.string (Q (vari xs)), .int .i64 0]) ∧ Below W.heap.size W w' by
    have hE : varE xs = 0 := by unfold varE; rw [right_ser h1, if_neg (by decide), if_neg (by omega)]
    have h := cap_Var_calls _ c xs W (ints_below hx k) (tab_below hT k)
    rw [hE, hn] at h
    unfold resV at h
    rw [if_pos rfl] at h
    exact h)
  have HV0 := Qv_is0 h1
  have HWh := Lib.hid (fun W => rwhole_calls (wid xs) W (by omega))
  have HO := Lib.hid (fun W => show Calls Tryz.prog 39 #[.int .i64 (isum (sprL xs k m)), .int .i64 m] W (LowPost (avg (sprL xs k m)) W) by
    have h := over_small (isum (sprL xs k m)) m W (by omega) (by have := sum_bd (sprL xs k m) HY.out; rw [hyl] at this; have h3 : (m : Int) * 16000 ≤ 20 * 16000 := by omega
                                                                 have h4 : (m : Int) * wid xs ≤ m * 16000 := Int.mul_le_mul_of_nonneg_left hd2 (by omega)
                                                                 omega) (by omega)
    unfold avg
    rw [hyl]
    exact h)
  unfold LowPost at HO
  have hd0 := hd.1
  clear hd
  rw [hn] at HR ⊢
  clear hx hT h1 hr hn hk hk2 hm hmk
  generalize wid xs = d at *
  generalize Lib.maxOf xs = mx at *
  generalize Lib.minOf xs = mn at *
  generalize hys : sprL xs k m = ys at *
  generalize Q (vari xs) = qv at *
  generalize Q (avg ys) = qa at *
  generalize T d = td at *
  obtain rfl : mx = d + mn := by have := HW.out; omega
  clear HW
  go_enter Tryz.func8, Tryz.ntmps8
  go_wp2_with (go_at_call 31; refine (HR.out).mono ?_; rintro e w1 ⟨rfl, rfl⟩)
  go_wp2_with (go_at_call 29; fail)
  refine (HS1.out _ (Below.refl _ _)).mono ?_
  rintro e w2 ⟨b1, o1, c1, rfl, hI1, hB2⟩
  have HI1 := Lib.hid hI1
  clear hI1
  go_wp2_with (go_at_call 36; refine (HMx.out _ hB2).mono ?_; rintro e w3 ⟨rfl, rfl⟩)
  go_wp2_with (go_at_call 37; refine (HMn.out _ hB2).mono ?_; rintro e w4 ⟨rfl, rfl⟩)
  go_wp2_with (go_at_call 14; fail)
  refine (HV.out _ hB2).mono ?_
  rintro e w5 ⟨rfl, hw5⟩
  have hB5 := below_below hB2 hB2.size hw5
  have hI5 := Lib.hid (ints_below HI1.out hw5)
  go_wp2_with (go_at_call 35; fail)
  refine (eq_one b1 o1 c1 d w5 hI5.out).mono ?_
  rintro e w6 ⟨rfl, hw6⟩
  have hB6 := below_below hB5 hB5.size hw6
  go_wp2_with (go_at_call 38; fail)
  refine (HWh.out _).mono ?_
  rintro e w7 ⟨rfl, hw7⟩
  have hB7 := below_below hB6 hB6.size hw7
  have hn1 : (2 : Int) ≤ n := by omega
  clear hI5 HI1 hw5 hw6 hw7 hB2 hB5 hB6 HV HMx HMn HS1 HR
  obtain ⟨N1, hN1⟩ : ∃ N1, (n : Int) - 1 = N1 := ⟨_, rfl⟩
  have hN2 : 1 ≤ N1 := by omega
  have hN3 : N1 ≤ 20 := by omega
  have hk4 : wrap64 (2 + u % N1) = k := by rw [← hN1, HK.out]; exact wrap_nat (by omega)
  have HkB := Lib.hid (And.intro hkb hmn)
  go_wp2_with (go_at_call 29; fail)
  first | rw [hk4] | skip
  refine (HS2.out _ hB7).mono ?_
  rintro e w8 ⟨b2, o2, c2, rfl, hI8, hw8⟩
  have hB8 := below_below hB7 hB7.size hw8
  have HI8 := Lib.hid hI8
  have hm4 := HM.out
  clear hk4 hN1 hN2 hN3 hI8 hw8 hB7
  go_wp2
  clear hm4
  have HS := Lib.hid (fun i => sum_bd (ys.take i) (fun y hy => HY.out y (List.mem_of_mem_take hy)))
  go_loopg [13, 91] m (fun j v13 v91 wr => ∃ i : Nat, v91 = .int .i64 i ∧ j + i = m ∧ v13 = .int .i64 (isum (ys.take i)) ∧ wr = w8)
  case atStart => exact ⟨0, rfl, by omega, rfl, rfl⟩
  case round =>
    obtain ⟨i, rfl, hi, rfl, rfl⟩ := hrel
    cases gk with
    | zero =>
      obtain rfl : i = m := by omega
      clear hi
      rw [List.take_of_length_le (by omega)]
      go_wp2_with (go_at_call 39; fail)
      refine (HO.out _).mono ?_
      rintro e w9 ⟨rfl, hw9⟩
      have hB9 := below_below hB8 hB8.size hw9
      go_wp2_with (go_at_call 11; fail)
      refine (HAw.out _ hB9).mono ?_
      rintro e w10 ⟨rfl, hw10⟩
      go_wp2
      go_ret
      exact ⟨rfl, below_below hB9 hB9.size hw10⟩
    | succ j =>
      have hin : i < m := by omega
      have hin2 : (i : Int) < m := by omega
      obtain ⟨b', o', e', hc⟩ := ints_get HI8.out (i := i) (by omega)
      cases e'
      have hy := HY.out (ys.getD i 0) (getD_mem (by omega))
      have hs := HS.out i
      have hsd : ((ys.take i).length : Int) * d ≤ 20 * 16000 := by
        have h1 : ((ys.take i).length : Int) * d ≤ ((ys.take i).length : Int) * 16000 := Int.mul_le_mul_of_nonneg_left hd2 (by omega)
        have h2 : (ys.take i).length ≤ 20 := by rw [List.length_take]; omega
        omega
      have hsum := Lib.hid (isum_take_succ ys i (by omega))
      have hs0 := hs.1
      have hs1 : isum (ys.take i) ≤ 320000 := by omega
      clear hs hsd
      generalize isum (ys.take i) = sv at *
      generalize ys.getD i 0 = y at *
      have hy0 := hy.1
      have hy1 := hy.2
      have hdy : decide (y < 0) = false := decide_eq_false (by omega)
      go_wp2
      go_roundg j
      case measure => omega
      case rel => exact ⟨i + 1, by go_num, by omega, by rw [hsum.out], rfl⟩
/-- CapabilityGroups. -/
theorem groups_calls (A : Option Addr) (c : Nat) (xs : List Int) (u : Int) (w : World) (hx : IntsAt w A c xs) (hT : Tab w) (hu : 0 ≤ u ∧ u ≤ 255) :
    Calls Tryz.prog 8 #[.slice A xs.length c, .int .u8 u] w (LawPost w) := by
  cases h : rightB xs with
  | false => exact groups_no A c xs u w hx hT h
  | true => exact groups_yes A c xs u w hx hT h hu
end Go.Proofs.YtdkfebfedfemaaaGreatDoor
