/- The walk of CapabilityTotals. -/
import Derived.Test.YtdkfebfedfemaaaGreatDoorL3
set_option linter.unusedVariables false
set_option linter.unusedSimpArgs false
namespace Go.Proofs.YtdkfebfedfemaaaGreatDoor
open Go.RowKit Go.Mlab

/-- What every law answers. -/
def LawPost (w : World) (e : Ending) (w' : World) : Prop := e = .returned (.bool true) ∧ Below w.heap.size w w'
set_option maxRecDepth 100000 in
set_option maxHeartbeats 4000000 in
theorem totals_no (A : Option Addr) (c : Nat) (xs : List Int) (lo hi : Int) (u : Int) (w : World) (hx : IntsAt w A c xs) (hT : Tab w) (h : rightB xs = false ∨ givE xs lo hi ≠ 0) :
    Calls Tryz.prog 7 #[.slice A xs.length c, .agg #[.int .i64 lo, .int .i64 hi], .int .u8 u] w (LawPost w) := by
  have hA : Below w.heap.size w (w.alloc (.cells #[.int .i64 lo, .int .i64 hi] 34)) := (Below.refl _ w).alloc (Nat.le_refl _) _
  have HR := Lib.hid (right_calls A c xs _ (ints_below hx hA))
  have HG := Lib.hid (given_calls A c xs lo hi _ (ints_below hx hA))
  have HA := Lib.hid hA
  have HAw := Lib.hid (fun w1 (k : Below w.heap.size w w1) => awake_calls w1 (tab_below hT k))
  have c1 : (w.alloc (.cells #[.int .i64 lo, .int .i64 hi] 34)).cell? ⟨w.heap.size, 0, none⟩ = some (.int .i64 lo) := by rw [cell_of_row _ _ _ _ _ _ (alloc_new w _)]; rfl
  have c2 : (w.alloc (.cells #[.int .i64 lo, .int .i64 hi] 34)).cell? ⟨w.heap.size, 1, none⟩ = some (.int .i64 hi) := by rw [cell_of_row _ _ _ _ _ _ (alloc_new w _)]; rfl
  clear hx hT hA
  cases hr : rightB xs with
  | false =>
    rw [hr] at HR
    clear h hr HG
    generalize xs.length = n at *
    go_enter Tryz.func7, Tryz.ntmps7
    go_wp2_with (go_at_call 31; refine (HR.out).mono ?_; rintro e w1 ⟨rfl, rfl⟩)
    go_wp2_with (go_at_call 11; refine (HAw.out _ HA.out).mono ?_; rintro e w2 ⟨rfl, hw2⟩)
    go_ret
    exact ⟨rfl, below_below HA.out HA.out.size hw2⟩
  | true =>
    rw [hr] at HR
    have hg : givE xs lo hi ≠ 0 := by rcases h with h | h; · rw [hr] at h; cases h
                                      · exact h
    have hb : (givE xs lo hi != 0) = true := by simpa using hg
    clear h hr hg
    generalize givE xs lo hi = er at *
    generalize xs.length = n at *
    go_enter Tryz.func7, Tryz.ntmps7
    go_wp2_with (go_at_call 31; refine (HR.out).mono ?_; rintro e w1 ⟨rfl, rfl⟩)
    go_wp2_with (go_at_call 32; refine (HG.out).mono ?_; rintro e w2 ⟨rfl, hw2⟩)
    have hB2 := below_below HA.out HA.out.size hw2
    go_wp2_with (go_at_call 11; refine (HAw.out _ hB2).mono ?_; rintro e w3 ⟨rfl, hw3⟩)
    go_ret
    exact ⟨rfl, below_below hB2 hB2.size hw3⟩

/-- What holds all through the law. -/
structure LimW (w : World) (A : Option Addr) (c : Nat) (xs : List Int) (lo hi : Int) (W : World) : Prop where
  below : Below w.heap.size w W
  ints : IntsAt W A c xs
  lo : W.cell? ⟨w.heap.size, 0, none⟩ = some (.int .i64 lo)
  hi : W.cell? ⟨w.heap.size, 1, none⟩ = some (.int .i64 hi)
  lt : w.heap.size < W.heap.size
theorem LimW.next {w W W' : World} {A : Option Addr} {c : Nat} {xs : List Int} {lo hi : Int} (h : LimW w A c xs lo hi W) (k : Below W.heap.size W W') : LimW w A c xs lo hi W' :=
  ⟨below_below h.below h.below.size k, ints_below h.ints k, (k.cell (p := ⟨w.heap.size, 0, none⟩) h.lt).trans h.lo, (k.cell (p := ⟨w.heap.size, 1, none⟩) h.lt).trans h.hi, Nat.lt_of_lt_of_le h.lt k.size⟩
theorem LimW.new {w : World} {A : Option Addr} {c : Nat} {xs : List Int} (hx : IntsAt w A c xs) (lo hi : Int) : LimW w A c xs lo hi (w.alloc (.cells #[.int .i64 lo, .int .i64 hi] 34)) := by
  have hA : Below w.heap.size w (w.alloc (.cells #[.int .i64 lo, .int .i64 hi] 34)) := (Below.refl _ w).alloc (Nat.le_refl _) _
  exact ⟨hA, ints_below hx hA, by rw [cell_of_row _ _ _ _ _ _ (alloc_new w _)]; rfl, by rw [cell_of_row _ _ _ _ _ _ (alloc_new w _)]; rfl, by simp⟩
theorem LimW.tab {w W : World} {A : Option Addr} {c : Nat} {xs : List Int} {lo hi : Int} (h : LimW w A c xs lo hi W) (hT : Tab w) : Tab W := tab_below hT h.below
theorem his_ok (A : Option Addr) (c : Nat) (xs : List Int) (lo wd : Int) (n : Nat) (w : World) (hx : IntsAt w A c xs) (hE : hisE xs lo wd n = 0) (hl : xs.length ≤ 4096) (hn : n ≤ 4096) :
    Calls Tryz.prog 24 #[.slice A xs.length c, .int .i64 lo, .int .i64 wd, .int .i64 n] w fun e w' => ∃ b, e = .returned (.tuple #[.slice (some ⟨b, 1, none⟩) n (n + 1), .int .i64 (cnt lo wd n xs 0), .int .i64 (cnt lo wd n xs (n + 1)), .int .i64 0]) ∧ IntsAt w' (some ⟨b, 1, none⟩) (n + 1) (binsL lo wd n xs) ∧ Below w.heap.size w w' := by
  refine (his_calls A c xs lo wd n w hx).mono ?_
  rintro e w' ⟨_, h, hB⟩
  obtain ⟨b, he, hb, hr⟩ := h hE
  rw [Int.toNat_natCast] at he hr
  refine ⟨b, he, ⟨by rw [binsL_len]; omega, by rw [binsL_len]; omega, .inr ⟨b, 1, rfl, intRow_lt hr, fun j hj => ?_⟩⟩, hB⟩
  rw [binsL_len] at hj
  have := intRow_cell hr (i := 1 + j) (by rw [cnts_len]; omega)
  rw [cnts_get _ _ _ _ (by omega)] at this
  rw [this, binsL_get _ _ _ _ hj, Nat.add_comm 1 j]
theorem eq_same (b1 o1 c1 b2 o2 c2 n : Nat) (ys : List Int) (w : World) (hn : ys.length = n) (h1 : IntsAt w (some ⟨b1, o1, none⟩) c1 ys) (h2 : IntsAt w (some ⟨b2, o2, none⟩) c2 ys) :
    Calls Tryz.prog 35 #[.slice (some ⟨b1, o1, none⟩) n c1, .slice (some ⟨b2, o2, none⟩) n c2] w fun e w' => e = .returned (.bool true) ∧ Below w.heap.size w w' := by
  have g : ∀ {b o c : Nat}, IntsAt w (some ⟨b, o, none⟩) c ys → ∀ j, j < ys.length → w.cell? ⟨b, o + j, none⟩ = some (.int .i64 (ys.getD j 0)) := fun h j hj => by
    obtain ⟨b', o', e, hc⟩ := ints_get h hj
    cases e; exact hc
  have hb := h1.big
  refine (slices_Equal_int b1 o1 n c1 b2 o2 n c2 ys ys w (by omega) (by omega) (by omega) (by omega) (g h1) (g h2)).mono ?_
  rintro e w' ⟨rfl, q, rfl⟩
  exact ⟨by simp, pw_below_drewN (Below.refl _ _) q⟩
set_option maxRecDepth 100000 in
set_option maxHeartbeats 8000000 in
theorem totals_yes (A : Option Addr) (c : Nat) (xs : List Int) (lo hi : Int) (u : Int) (w : World) (hx : IntsAt w A c xs) (hT : Tab w) (h1 : rightB xs = true) (h2 : givE xs lo hi = 0) (hu : 0 ≤ u ∧ u ≤ 255) :
    Calls Tryz.prog 7 #[.slice A xs.length c, .agg #[.int .i64 lo, .int .i64 hi], .int .u8 u] w (LawPost w) := by
  have H0 := Lib.hid (LimW.new hx lo hi)
  have HR := Lib.hid (right_calls A c xs _ H0.out.ints)
  have HG := Lib.hid (given_calls A c xs lo hi _ H0.out.ints)
  have hr := rightB_iff.1 h1
  have hg := givE_ser h2
  have hok := serE_ok hg.1
  rw [h1] at HR
  rw [h2] at HG
  obtain ⟨wd, hwd⟩ : ∃ wd, 1 + (hi - lo) / 8 = wd := ⟨_, rfl⟩
  obtain ⟨n, hn⟩ : ∃ n : Nat, 1 + u % 20 = n := ⟨(1 + u % 20).toNat, by omega⟩
  have hwb : 1 ≤ wd ∧ wd ≤ 1048576 := by omega
  have hnb : 1 ≤ n ∧ n ≤ 20 := by omega
  have hu0 := hu.1
  have hu1 := hu.2
  have hlo := hg.2.1
  have hlh := hg.2.2.1
  have hhi := hg.2.2.2
  have hlo2 : lo ≤ 1048576 := by omega
  have hhi2 : -1048576 ≤ hi := by omega
  have HE := Lib.hid (show hisE xs lo wd n = 0 by unfold hisE; rw [hg.1, if_neg (by decide), if_neg (by rw [inB_iff.2 ⟨hlo, hlo2⟩]; simp; omega)])
  have HE2 := Lib.hid (show hisE (sortZ xs) lo wd n = 0 by unfold hisE; rw [serE_perm (sortZ_perm xs), hg.1, if_neg (by decide), if_neg (by rw [inB_iff.2 ⟨hlo, hlo2⟩]; simp; omega)])
  have HT := Lib.hid hT
  have HAw := Lib.hid (fun w1 (k : Below w.heap.size w w1) => awake_calls w1 (tab_below hT k))
  have HOK := Lib.hid hok
  have HRR := Lib.hid hr
  have HRV := Lib.hid (show runsV xs lo hi = runsL lo hi xs by unfold runsV; rw [if_pos h2])
  have HGI := Lib.hid h2
  have hl20 := hr.2.1
  have hl2 := hr.1
  have hbt := binsL_total (lo := lo) (n := n) (by omega : 0 < wd) xs
  have hb0 := cnt_bd lo wd n xs 0
  have hb1 := cnt_bd lo wd n xs (n + 1)
  have hbn := binsL_nonneg lo wd n xs
  have HBL := Lib.hid (binsL_len lo wd n xs)
  have hrl := runsL_ok lo hi xs
  have hrn := runFold_bd lo hi xs
  have hrlen : (runsL lo hi xs).length ≤ 20 := by
    unfold runsL
    split
    · omega
    · rename_i h; have := hrn.2.2 h; rw [List.length_append, List.length_singleton]; omega
  have HRL := Lib.hid hrl
  have HBN := Lib.hid hbn
  have HH1 := Lib.hid (fun W (k : IntsAt W A c xs) => his_ok A c xs lo wd n W k HE.out (by omega) (by omega))
  have HH2 := Lib.hid (fun W b cp (k : IntsAt W (some ⟨b, 0, none⟩) cp (sortZ xs)) => by
    have h := his_ok (some ⟨b, 0, none⟩) cp (sortZ xs) lo wd n W k HE2.out (by rw [sortZ_len]; omega) (by omega)
    rw [cnt_perm (sortZ_perm xs) 0, cnt_perm (sortZ_perm xs) (n + 1), show binsL lo wd n (sortZ xs) = binsL lo wd n xs from List.map_congr_left fun k _ => cnt_perm (sortZ_perm xs) (k + 1), sortZ_len] at h
    exact h)
  have HRun := Lib.hid (fun W (k : IntsAt W A c xs) => by
    have h := runs_all_calls A c xs lo hi W k
    rw [h2, HRV.out] at h
    exact h)
  have HSo := Lib.hid (fun W (k : IntsAt W A c xs) => by
    have h := sorted_calls 68 #[.pointer (some ⟨W.heap.size, 0, none⟩)] enters68 xs xs.length W.heap.size (W.alloc (.cells #[.slice A xs.length c] 22)) (W.alloc (.cells #[.slice A xs.length c] 22))
      (values_seq A c xs W _ k W.heap.size (by simp) ((Below.refl _ W).alloc (Nat.le_refl _) _) (by rw [cell_of_row _ _ _ _ _ _ (alloc_new W _)]; rfl)) (Below.refl _ _) (by simp) (by omega) hok.1 (by omega)
    unfold OwnInts at h
    rw [sortZ_len] at h
    exact h)
  clear hx hT h1 h2 hr hg hok hu hrl hrn hbn
  have HWD := Lib.hid hwd
  have HNN := Lib.hid hn
  clear hwd hn
  obtain ⟨len, hlen⟩ : ∃ len, xs.length = len := ⟨_, rfl⟩
  rw [hlen] at HR HG hl20 hl2 hbt hb0 hb1 HH1 HH2 HRun HSo ⊢
  have HL := Lib.hid hlen
  clear hlen
  go_enter Tryz.func7, Tryz.ntmps7
  go_wp2_with (go_at_call 31; fail)
  refine (HR.out).mono ?_
  rintro e w1 ⟨rfl, rfl⟩
  have l1 := H0.out.lo
  have k1 := H0.out.hi
  go_wp2_with (go_at_call 32; fail)
  refine (HG.out).mono ?_
  rintro e w2 ⟨rfl, hw2⟩
  have H2 := Lib.hid (H0.out.next hw2)
  clear hw2 HR HG l1 k1
  have l2 := H2.out.lo
  have k2 := H2.out.hi
  go_wp2_with (go_at_call 34; fail)
  rw [HWD.out, HNN.out]
  refine (values_calls A len c w2).mono ?_
  rintro e w3 ⟨rfl, hw3⟩
  have HS3 := Lib.hid (HSo.out w2 H2.out.ints)
  have hB3 : Below w2.heap.size w2 w3 := by rw [← hw3]; exact (Below.refl _ _).alloc (Nat.le_refl _) _
  have HS4 := Lib.hid (show Calls Tryz.prog 33 #[.func (.func 68) #[] #[.pointer (some ⟨w2.heap.size, 0, none⟩)]] w3 _ from hw3 ▸ HS3.out)
  have H3 := Lib.hid (H2.out.next hB3)
  have HB3 := Lib.hid hB3
  clear hw3 hB3 l2 k2 HS3
  go_wp2_with (go_at_call 33; fail)
  refine (HS4.out).mono ?_
  rintro e w4 ⟨bs4, c4, rfl, _, hI4, hB4⟩
  have H4 := Lib.hid (H2.out.next (HB3.out.trans hB4))
  have HI4 := Lib.hid hI4
  clear H3 H2 HB3 HS4 hI4 hB4
  have l4 := H4.out.lo
  go_wp2_with (go_at_call 24; fail)
  refine (HH1.out _ H4.out.ints).mono ?_
  rintro e w5 ⟨b5, rfl, hI5, hw5⟩
  have H5 := Lib.hid (H4.out.next hw5)
  have HI5 := Lib.hid (And.intro (ints_below HI4.out hw5) hI5)
  clear hw5 hI5 H4 HI4 l4
  have l5 := H5.out.lo
  go_wp2_with (go_at_call 24; fail)
  refine (HH2.out _ _ _ HI5.out.1).mono ?_
  rintro e w6 ⟨b6, rfl, hI6, hw6⟩
  have H6 := Lib.hid (H5.out.next hw6)
  have HI6 := Lib.hid (And.intro (ints_below HI5.out.2 hw6) hI6)
  clear hw6 hI6 H5 HI5 l5
  have l6 := H6.out.lo
  have k6 := H6.out.hi
  go_wp2_with (go_at_call 27; fail)
  refine (HRun.out _ H6.out.ints).mono ?_
  rintro e w7 ⟨A7, c7, rfl, hI7, hw7⟩
  have H7 := Lib.hid (H6.out.next hw7)
  have HI7 := Lib.hid (And.intro (And.intro (ints_below HI6.out.1 hw7) (ints_below HI6.out.2 hw7)) hI7)
  clear hw7 hI7 H6 HI6 l6 k6 HRun HH1 HH2 HSo HE HE2 HRV HGI
  generalize hx0 : cnt lo wd n xs 0 = x0 at *
  generalize hx1 : cnt lo wd n xs (n + 1) = x1 at *
  clear hx0 hx1
  generalize binsL lo wd n xs = bs at *
  generalize runsL lo hi xs = rs at *
  obtain ⟨rl, hrl⟩ : ∃ rl, rs.length = rl := ⟨_, rfl⟩
  rw [hrl] at hrlen ⊢
  have HRN := Lib.hid hrl
  clear hrl
  have h4096 : x0 ≤ 4096 ∧ x1 ≤ 4096 := by omega
  have HBT := Lib.hid hbt
  clear hbt
  go_wp2_with (go_at_call 35; fail)
  refine (eq_same _ _ _ _ _ _ n bs _ HBL.out HI7.out.1.1 HI7.out.1.2).mono ?_
  rintro e w8 ⟨rfl, hw8⟩
  have H8 := Lib.hid (H7.out.next hw8)
  have HI8 := Lib.hid (And.intro (ints_below HI7.out.1.1 hw8) (ints_below HI7.out.2 hw8))
  clear hw8 H7 HI7
  go_wp2
  go_loopg [20, 117] n (fun k v20 v117 wr => ∃ i : Nat, v117 = .int .i64 i ∧ k + i = n ∧ wr = w8 ∧ v20 = .int .i64 (x0 + x1 + isum (bs.take i)))
  case atStart => exact ⟨0, rfl, by omega, rfl, by simp [isum]⟩
  case round =>
    obtain ⟨i, rfl, hi, rfl, rfl⟩ := hrel
    have htk := isum_take_le HBN.out i
    have hbt := HBT.out
    have hs1 : 0 ≤ isum (bs.take i) ∧ isum (bs.take i) ≤ 4096 := by omega
    clear htk hbt
    cases gk with
    | succ m =>
      have hin : i < n := by omega
      have hin2 : (i : Int) < n := by omega
      obtain ⟨b', o', e', hc⟩ := ints_get HI8.out.1 (i := i) (by rw [HBL.out]; exact hin)
      cases e'
      have HS := Lib.hid (isum_take_succ bs i (by rw [HBL.out]; exact hin))
      have hx := HBN.out _ (getD_mem (xs := bs) (i := i) (by rw [HBL.out]; exact hin))
      have htk2 := isum_take_le HBN.out (i + 1)
      have hbt := HBT.out
      rw [HS.out] at htk2
      have hx2 : bs.getD i 0 ≤ 4096 := by omega
      clear htk2 hbt
      generalize bs.getD i 0 = y at *
      generalize isum (bs.take i) = s at *
      go_wp2
      go_roundg m
      case measure => omega
      case rel => exact ⟨i + 1, by go_num, by omega, rfl, by rw [HS.out]; go_num⟩
    | zero =>
      obtain rfl : i = n := by omega
      clear hi
      have hsum := HBT.out
      rw [← HBL.out, List.take_length] at hs1 ⊢
      rw [HBL.out]
      have HSum := Lib.hid (show x0 + x1 + isum bs = (len : Int) by omega)
      rw [HSum.out]
      clear hsum hs1
      go_wp2
      go_loopg [23, 24, 127] rl (fun k v23 v24 v127 wq => ∃ j : Nat, v127 = .int .i64 j ∧ k + j = rl ∧ wq = wr ∧ v23 = .int .i64 (asum (rs.take j)) ∧ v24 = .int .i64 (lastZ (rs.take j)))
      case atStart => exact ⟨0, rfl, by omega, rfl, rfl, rfl⟩
      case round =>
        obtain ⟨j, rfl, hj, rfl, rfl, rfl⟩ := hrel
        have htk := asum_take rs j
        have htot := HRL.out.2.1
        have hmb := midL_bd lo hi xs
        have hlx := HL.out
        have hs1 : 0 ≤ asum (rs.take j) ∧ asum (rs.take j) ≤ 20 := by omega
        clear htk htot hmb hlx
        cases gk with
        | succ m =>
          have hin : j < rl := by omega
          have hin2 : (j : Int) < rl := by omega
          obtain ⟨b', o', rfl, hc⟩ := ints_get HI8.out.2 (i := j) (by rw [HRN.out]; exact hin)
          have HS := Lib.hid (asum_take_succ rs j (by rw [HRN.out]; exact hin))
          have HLZ := Lib.hid (lastZ_take_succ rs j (by rw [HRN.out]; exact hin))
          have hne := HRL.out.1 _ (getD_mem (xs := rs) (i := j) (by rw [HRN.out]; exact hin))
          have htk2 := asum_take rs (j + 1)
          have htot := HRL.out.2.1
          have hmb := midL_bd lo hi xs
          have hlx := HL.out
          rw [HS.out] at htk2
          generalize rs.getD j 0 = y at *
          have hya : mabs y ≤ 20 := by omega
          unfold mabs at hya HS
          have hy1 : -20 ≤ y ∧ y ≤ 20 := by omega
          have hy0 : (y == 0) = false := by simpa using hne
          clear htk2 htot hmb hlx hne hya
          generalize asum (rs.take j) = s at *
          go_wp2
          go_roundg m
          case measure => omega
          case rel => exact ⟨j + 1, by go_num, by omega, rfl, by rw [HS.out], by rw [HLZ.out]⟩
        | zero =>
          obtain rfl : j = rl := by omega
          clear hj
          have htot := HRL.out.2.1
          rw [HL.out] at htot
          rw [← HRN.out, List.take_length] at hs1 ⊢
          rw [HRN.out]
          have HTot := Lib.hid htot
          clear htot
          generalize hlz : lastZ rs = lz at *
          generalize hsa : asum rs = sa at *
          clear hlz hsa
          go_wp2
          have l8 := H8.out.lo
          have k8 := H8.out.hi
          go_loopg [27, 143] len (fun k v27 v143 wq => ∃ q : Nat, v143 = .int .i64 q ∧ k + q = len ∧ wq = wr ∧ v27 = .int .i64 (midL lo hi (xs.take q)))
          case atStart => exact ⟨0, rfl, by omega, rfl, rfl⟩
          case round =>
            obtain ⟨q, rfl, hq, rfl, rfl⟩ := hrel
            have hmb := midL_bd lo hi (xs.take q)
            have hlt : (xs.take q).length ≤ q := List.length_take_le _ _
            have hmb2 : 0 ≤ midL lo hi (xs.take q) ∧ midL lo hi (xs.take q) ≤ 20 := by omega
            clear hmb hlt
            cases gk with
            | succ m =>
              have hin : q < len := by omega
              have hin2 : (q : Int) < len := by omega
              obtain ⟨b', o', rfl, hc⟩ := ints_get H8.out.ints (i := q) (by rw [HL.out]; exact hin)
              have HS := Lib.hid (midL_take_succ lo hi xs q (by rw [HL.out]; exact hin))
              have hvb := HRR.out.2.2 _ (getD_mem (xs := xs) (i := q) (by rw [HL.out]; exact hin))
              generalize xs.getD q 0 = v at *
              generalize midL lo hi (xs.take q) = md at *
              by_cases he : 2 * v = lo + hi
              · rw [if_pos he] at HS
                have hb : (2 * v == lo + hi) = true := by simpa using he
                clear he
                go_wp2
                go_roundg m
                case measure => omega
                case rel => exact ⟨q + 1, by go_num, by omega, rfl, by rw [HS.out]⟩
              · rw [if_neg he] at HS
                have hb : (2 * v == lo + hi) = false := by simpa using he
                clear he
                go_wp2
                go_roundg m
                case measure => omega
                case rel => exact ⟨q + 1, by go_num, by omega, rfl, by rw [HS.out, Int.add_zero]⟩
            | zero =>
              obtain rfl : q = len := by omega
              clear hq
              have htot := HTot.out
              have hlast := HRL.out.2.2 _ (last_getD xs HOK.out.1)
              rw [HL.out] at hlast
              obtain ⟨b', o', rfl, hc⟩ := ints_get H8.out.ints (i := q - 1) (by rw [HL.out]; omega)
              have hvb := HRR.out.2.2 _ (getD_mem (xs := xs) (i := q - 1) (by rw [HL.out]; omega))
              have etk : xs.take q = xs := by rw [← HL.out, List.take_length]
              rw [etk] at hmb2 ⊢
              clear etk
              generalize midL lo hi xs = md at *
              generalize xs.getD (q - 1) 0 = v at *
              have ht2 : (sa + md == (q : Int)) = true := by simpa using htot
              have HAq := Lib.hid (HAw.out _ H8.out.below)
              have HBq := Lib.hid H8.out.below
              have hq1 : (q : Int) - 1 < q := by omega
              have hq2 : 0 ≤ (q : Int) - 1 := by omega
              have hq3 : ((q : Int) - 1).toNat = q - 1 := by omega
              clear htot HTot HRL HRR HOK HAw H0 H8 HI8 HBT HBL HBN HNN HWD HRN
              by_cases hp : lo + hi < 2 * v
              · have hz := hlast.1 hp
                clear hlast
                go_wp2_with (go_at_call 11; refine (HAq.out).mono ?_; rintro e w9 ⟨rfl, hw9⟩)
                go_ret
                exact ⟨rfl, below_below HBq.out HBq.out.size hw9⟩
              · by_cases hm : 2 * v < lo + hi
                · have hz := hlast.2 hm
                  have hp' : 2 * v ≤ lo + hi := by omega
                  clear hlast hp
                  go_wp2_with (go_at_call 11; refine (HAq.out).mono ?_; rintro e w9 ⟨rfl, hw9⟩)
                  go_ret
                  exact ⟨rfl, below_below HBq.out HBq.out.size hw9⟩
                · have hp' : 2 * v ≤ lo + hi := by omega
                  have hm' : lo + hi ≤ 2 * v := by omega
                  clear hlast hp hm
                  go_wp2_with (go_at_call 11; refine (HAq.out).mono ?_; rintro e w9 ⟨rfl, hw9⟩)
                  go_ret
                  exact ⟨rfl, below_below HBq.out HBq.out.size hw9⟩
theorem totals_calls (A : Option Addr) (c : Nat) (xs : List Int) (lo hi : Int) (u : Int) (w : World) (hx : IntsAt w A c xs) (hT : Tab w) (hu : 0 ≤ u ∧ u ≤ 255) :
    Calls Tryz.prog 7 #[.slice A xs.length c, .agg #[.int .i64 lo, .int .i64 hi], .int .u8 u] w (LawPost w) := by
  cases h : rightB xs with
  | false => exact totals_no A c xs lo hi u w hx hT (.inl h)
  | true =>
    by_cases hg : givE xs lo hi = 0
    · exact totals_yes A c xs lo hi u w hx hT h hg hu
    · exact totals_no A c xs lo hi u w hx hT (.inr hg)
end Go.Proofs.YtdkfebfedfemaaaGreatDoor
