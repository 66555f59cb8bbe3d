/- parted, Quo: the quotient of integers, rounded down. -/
import Derived.Test.YtdkfebfedfemaaaGreatDoorC6
import Derived.Test.YtdkfebfedfemaaaGreatDoorM7
import Derived.BigRegion
import Derived.Deep.Cut
set_option linter.unusedVariables false
set_option linter.unusedSimpArgs false
namespace Go.Proofs.YtdkfebfedfemaaaGreatDoor
open Go.RowKit Go.Mlab

def PartedPost (a b : Int) (w : World) (e : Ending) (w' : World) : Prop := e = .returned (.tuple #[.string (T (a.fdiv b)), .string (T (a - a.fdiv b * b)), .int .i64 0]) ∧ Below w.heap.size w w'
set_option maxRecDepth 100000 in
set_option maxHeartbeats 1000000 in
theorem parted_small (a b : Int) (w : World) (ha : fits a = true) (hb : fits b = true) (ht : Tab w) (h0 : b ≠ 0) (hs : (T a).size ≤ 9 ∧ (T b).size ≤ 9) :
    Calls Tryz.prog 182 #[.string (T a), .string (T b)] w (PartedPost a b w) := by
  have HA := Lib.hid (all2_ok a b w 84 ha hb)
  have HT := Lib.hid ht
  clear ht
  have h1 := short_bound hs.1
  have h2 := short_bound hs.2
  have HS := Lib.hid (fun w => small_short a b w hs.1 hs.2)
  have hz := T_is0 h0
  have hF := tdiv_floor (a := a) h0
  have hq : -1000000000 ≤ a.tdiv b ∧ a.tdiv b ≤ 1000000000 := by
    have k1 : (a.tdiv b).natAbs = a.natAbs / b.natAbs := Int.natAbs_tdiv a b
    have k2 := Nat.div_le_self a.natAbs b.natAbs
    omega
  have hr : -1000000000 ≤ a.tmod b ∧ a.tmod b ≤ 1000000000 := by
    have k1 : (a.tmod b).natAbs = a.natAbs % b.natAbs := Int.natAbs_tmod a b
    have k2 := Nat.mod_le a.natAbs b.natAbs
    omega
  have hfits : -10000000000 ≤ a.fdiv b ∧ a.fdiv b ≤ 10000000000 ∧ -10000000000 ≤ a - a.fdiv b * b ∧ a - a.fdiv b * b ≤ 10000000000 := by
    by_cases g : (a.tmod b ≠ 0 ∧ (decide (a.tmod b < 0) != decide (b < 0)) = true)
    · have := hF.1 g; omega
    · have := hF.2 g; omega
  have HR := Lib.hid (fun w h => of_calls (a.fdiv b) (by omega) (by omega) w h)
  have HR2 := Lib.hid (fun w h => of_calls (a - a.fdiv b * b) (by omega) (by omega) w h)
  unfold PartedPost
  have wq : IntKind.i64.wrap (a.tdiv b) = a.tdiv b := Go.IntWalk.i64_in _ ⟨by omega, by omega⟩
  have wr : IntKind.i64.wrap (a.tmod b) = a.tmod b := Go.IntWalk.i64_in _ ⟨by omega, by omega⟩
  generalize a - a.fdiv b * b = rest at *
  generalize a.fdiv b = quo at *
  clear ha hb hs
  generalize T a = s at *
  generalize T b = t at *
  go_enter Tryz.func182, Tryz.ntmps182
  go_wp2_with (go_at_call 108; refine (HA.out).mono ?_; rintro e w1 ⟨rfl, hw1⟩)
  go_wp2_with (go_at_call 140; refine (HS.out _).mono ?_; rintro e w2 ⟨rfl, hw2⟩)
  have hB := below_below hw1 hw1.size hw2
  go_region
  have hB' : Below w.heap.size w w2.drew := pw_below_drewN hB 1
  clear wq wr
  generalize a.tdiv b = q at *
  generalize a.tmod b = r at *
  clear hw1 hw2 hB
  by_cases g0 : r = 0
  · obtain ⟨rfl, rfl⟩ := hF.2 (fun h => h.1 g0)
    clear hF
    subst g0
    · go_wp2_with (go_at_call 79; fail)
      refine (HR.out _ (tab_below HT.out hB')).mono ?_
      rintro e w3 ⟨rfl, hw3⟩
      have hB3 := below_below hB' hB'.size hw3
      go_wp2_with (go_at_call 79; fail)
      refine (HR2.out _ (tab_below HT.out hB3)).mono ?_
      rintro e w4 ⟨rfl, hw4⟩
      go_wp2
      go_ret3
      exact ⟨rfl, below_below hB3 hB3.size hw4⟩
  · have g0' : (r != 0) = true := by simpa using g0
    by_cases g1 : r < 0 <;> by_cases g2 : b < 0
    · obtain ⟨rfl, rfl⟩ := hF.2 (fun h => by simp [g1, g2] at h)
      clear hF
      go_wp2_with (go_at_call 79; fail)
      refine (HR.out _ (tab_below HT.out hB')).mono ?_
      rintro e w3 ⟨rfl, hw3⟩
      have hB3 := below_below hB' hB'.size hw3
      go_wp2_with (go_at_call 79; fail)
      refine (HR2.out _ (tab_below HT.out hB3)).mono ?_
      rintro e w4 ⟨rfl, hw4⟩
      go_wp2
      go_ret3
      exact ⟨rfl, below_below hB3 hB3.size hw4⟩
    · obtain ⟨e1, e2⟩ := hF.1 ⟨g0, by simp [g1, g2]⟩
      clear hF
      subst e1 e2
      go_wp2_with (go_at_call 79; fail)
      refine (HR.out _ (tab_below HT.out hB')).mono ?_
      rintro e w3 ⟨rfl, hw3⟩
      have hB3 := below_below hB' hB'.size hw3
      go_wp2_with (go_at_call 79; fail)
      refine (HR2.out _ (tab_below HT.out hB3)).mono ?_
      rintro e w4 ⟨rfl, hw4⟩
      go_wp2
      go_ret3
      exact ⟨rfl, below_below hB3 hB3.size hw4⟩
    · obtain ⟨e1, e2⟩ := hF.1 ⟨g0, by simp [g1, g2]⟩
      clear hF
      subst e1 e2
      go_wp2_with (go_at_call 79; fail)
      refine (HR.out _ (tab_below HT.out hB')).mono ?_
      rintro e w3 ⟨rfl, hw3⟩
      have hB3 := below_below hB' hB'.size hw3
      go_wp2_with (go_at_call 79; fail)
      refine (HR2.out _ (tab_below HT.out hB3)).mono ?_
      rintro e w4 ⟨rfl, hw4⟩
      go_wp2
      go_ret3
      exact ⟨rfl, below_below hB3 hB3.size hw4⟩
    · obtain ⟨rfl, rfl⟩ := hF.2 (fun h => by simp [g1, g2] at h)
      clear hF
      go_wp2_with (go_at_call 79; fail)
      refine (HR.out _ (tab_below HT.out hB')).mono ?_
      rintro e w3 ⟨rfl, hw3⟩
      have hB3 := below_below hB' hB'.size hw3
      go_wp2_with (go_at_call 79; fail)
      refine (HR2.out _ (tab_below HT.out hB3)).mono ?_
      rintro e w4 ⟨rfl, hw4⟩
      go_wp2
      go_ret3
      exact ⟨rfl, below_below hB3 hB3.size hw4⟩

/-- What the walk has when both numbers are read and divided. -/
structure Divd (a b : Int) (w : World) (b1 b2 bq br : Nat) (p q : Bool) (x y k r : Wide) (W : World) : Prop where
  wx : WideAt W b1 x
  wy : WideAt W b2 y
  wk : WideAt W bq k
  wr : WideAt W br r
  okx : WideOk x
  oky : WideOk y
  okk : WideOk k
  okr : WideOk r
  az : a = if p then -x.m else x.m
  bz : b = if q then -y.m else y.m
  hp : x.less = p
  hq : y.less = q
  lk : k.less = false
  lr : r.less = false
  e : x.m = k.m * y.m + r.m
  lt : r.m < y.m
  low : w.heap.size ≤ b1 ∧ w.heap.size ≤ b2 ∧ w.heap.size ≤ bq ∧ w.heap.size ≤ br
  ne : b1 ≠ bq ∧ b1 ≠ br ∧ b2 ≠ bq ∧ b2 ≠ br ∧ bq ≠ br
  below : Below w.heap.size w W
  nx : x.n ≤ 114
  ny : y.n ≤ 114
set_option maxRecDepth 100000 in
theorem one_arr : (Tryz.zeroCells168.setIfInBounds 0 (.bool true)).setIfInBounds 1 (.int .i64 1) = (wideCells ⟨true, 1, zeroW⟩).toArray := by kernel_rfl
theorem wideAt_one (w : World) : WideAt (w.alloc (.cells ((Tryz.zeroCells168.setIfInBounds 0 (.bool true)).setIfInBounds 1 (.int .i64 1)) 168)) w.heap.size ⟨true, 1, zeroW⟩ := by
  rw [one_arr]; exact alloc_new w _
theorem one_ok : WideOk ⟨true, 1, zeroW.set 0 1⟩ := by
  refine ⟨by rw [List.length_set, zeroW_len], wordsOk_set zeroW_ok 0 ⟨by decide, by decide⟩, by decide, ?_, ?_⟩
  · intro i hi
    have hi : 1 ≤ i := hi
    rw [List.getD_eq_getElem?_getD, List.getElem?_set_ne (by omega), ← List.getD_eq_getElem?_getD]
    exact zeroW_at i
  · intro _
    show (zeroW.set 0 1).getD 0 0 ≠ 0
    rw [List.getD_eq_getElem?_getD, List.getElem?_set_self (by rw [zeroW_len]; decide)]
    decide
theorem one_m : mag (zeroW.set 0 1) = 1 := by
  rw [mag_set _ _ _ (by rw [zeroW_len]; decide), zeroW_at, BB_zero]
  have := zeroW_m false 0
  unfold Wide.m at this
  rw [this]; rfl
theorem mended_room {a b : Int} {w : World} {b1 b2 bq br : Nat} {p q : Bool} {x y k r : Wide} {W : World} (D : Divd a b w b1 b2 bq br p q x y k r W) : k.m + 1 < BB 232 ∧ r.m + y.m < BB 232 := by
  have h1 := D.okx.lt
  have h2 := D.oky.lt
  have h3 := BB_mono D.nx
  have h4 := BB_mono D.ny
  have h5 : 1000000000 * BB 114 ≤ BB 232 := by rw [← BB_succ]; exact BB_mono (by decide)
  have h6 := BB_pos 114
  have h7 := D.lt
  have h8 := D.okr.nonneg
  have h9 := D.okk.nonneg
  have h10 := D.e
  have h11 : k.m * 1 ≤ k.m * y.m := Int.mul_le_mul_of_nonneg_left (by omega) h9
  constructor <;> omega
set_option maxRecDepth 100000 in
set_option maxHeartbeats 4000000 in
theorem parted_large (a b : Int) (w : World) (ha : fits a = true) (hb : fits b = true) (ht : Tab w) (h0 : b ≠ 0) (hs : ¬ ((T a).size ≤ 9 ∧ (T b).size ≤ 9)) :
    Calls Tryz.prog 182 #[.string (T a), .string (T b)] w (PartedPost a b w) := by
  have HA := Lib.hid (all2_ok a b w 84 ha hb)
  have HT := Lib.hid ht
  clear ht
  have hz := T_is0 h0
  have HS := Lib.hid (fun w => small_long a b w (by have := fits_size ha; omega) (by have := fits_size hb; omega) hs)
  have HRa := Lib.hid (fun w => read_calls a w ha)
  have HRb := Lib.hid (fun w => read_calls b w hb)
  have HM := Lib.hid (fun w1 e2 w2 e3 w3 (h1 : Below w.heap.size w w1) (h2 : NewWide w1 a e2 w2) (h3 : NewWide w2 b e3 w3) =>
      show ∃ b1 b2 p q x y, e2 = .returned (.pointer (some ⟨b1, 0, none⟩)) ∧ e3 = .returned (.pointer (some ⟨b2, 0, none⟩)) ∧
        Hid (Calls Tryz.prog 164 #[.pointer (some ⟨b1, 0, none⟩), .pointer (some ⟨b2, 0, none⟩)] w3 fun e w' =>
          ∃ bq br k r, e = .returned (.tuple #[.pointer (some ⟨bq, 0, none⟩), .pointer (some ⟨br, 0, none⟩)]) ∧ Divd a b w b1 b2 bq br p q x y k r w') by
        obtain ⟨d, x, rfl, g1, g2, g3, g4, g5⟩ := h2
        obtain ⟨d', y, rfl, k1, k2, k3, k4, k5⟩ := h3
        refine ⟨d, d', x.less, y.less, x, y, rfl, rfl, Lib.hid ?_⟩
        have hy0 : y.n ≠ 0 := by
          intro h
          have := k3.n_zero.1 h
          have h2 := z_abs y k3
          rw [k4] at h2; omega
        refine (divided_calls d d' x y w3 (wideAt_below g2 k5) k2 g3 k3 hy0 (by have := fits_n k3 (by rw [k4]; exact hb); omega)).mono ?_
        rintro e w' ⟨bq, br, k, r, rfl, m1, m2, m3, m4, m5, m6, m7, m8, m9, m10, m11, m12⟩
        have h6 := below_below (below_below h1 h1.size g5) (Nat.le_trans h1.size g5.size) k5
        have s1 := wideAt_lt g2
        have s2 := wideAt_lt k2
        have s3 := h1.size
        have s4 := k5.size
        have s5 := g5.size
        refine ⟨bq, br, k, r, rfl, wideAt_below (wideAt_below g2 k5) m12, wideAt_below k2 m12, m4, m5, g3, k3, m6, m7, ?_, ?_, rfl, rfl, m8, m9, m10, m11, ⟨by omega, by omega, by omega, by omega⟩, ⟨by omega, by omega, by omega, by omega, m3⟩, below_below h6 h6.size m12, fits_n g3 (by rw [g4]; exact ha), fits_n k3 (by rw [k4]; exact hb)⟩
        · rw [← g4]; rfl
        · rw [← k4]; rfl)
  clear ha hb hs h0
  generalize T a = s at *
  generalize T b = t at *
  unfold PartedPost
  go_enter Tryz.func182, Tryz.ntmps182
  go_wp2_with (go_at_call 108; refine (HA.out).mono ?_; rintro e w1 ⟨rfl, hw1⟩)
  go_wp2_with (go_at_call 140; refine (HS.out _).mono ?_; rintro e w2 ⟨rfl, rfl⟩)
  go_wp2_with (go_at_call 142; fail)
  refine (HRa.out _).mono ?_
  intro e3 w3 h3
  have H3 := Lib.hid h3
  obtain ⟨d, rfl⟩ : ∃ d, e3 = .returned (.pointer (some ⟨d, 0, none⟩)) := by obtain ⟨d, x, rfl, _⟩ := h3; exact ⟨d, rfl⟩
  clear h3
  go_wp2_with (go_at_call 142; fail)
  refine (HRb.out _).mono ?_
  intro e4 w4 h4
  have H4 := Lib.hid h4
  obtain ⟨d', rfl⟩ : ∃ d, e4 = .returned (.pointer (some ⟨d, 0, none⟩)) := by obtain ⟨d, x, rfl, _⟩ := h4; exact ⟨d, rfl⟩
  clear h4
  obtain ⟨b1, b2, p, q, x, y, e1, e2, HC⟩ := HM.out _ _ _ _ _ hw1 H3.out H4.out
  cases e1; cases e2
  clear H3 H4 HM HRa HRb HS HA
  go_wp2_with (go_at_call 164; refine (HC.out).mono ?_; rintro e w5 ⟨bq, br, k, r, rfl, hd⟩; have D := Lib.hid hd; clear hd HC)
  have c1 := wideAt_less D.out.wx
  have c2 := wideAt_less D.out.wy
  have c3 := wideAt_less D.out.wk
  have c4 := wideAt_less D.out.wr
  rw [D.out.hp] at c1
  rw [D.out.hq] at c2
  rw [D.out.lk] at c3
  rw [D.out.lr] at c4
  have f3 := wideAt_frozen D.out.wk 0
  have f4 := wideAt_frozen D.out.wr 0
  obtain ⟨n1, n2, n3, n4, n5⟩ := D.out.ne
  have n5' := Ne.symm n5
  go_region
  have E := Lib.hid (show WideAt ((w5.setCell ⟨bq, 0, none⟩ (.bool !(p == q))).setCell ⟨br, 0, none⟩ (.bool p)).drew d x ∧ WideAt ((w5.setCell ⟨bq, 0, none⟩ (.bool !(p == q))).setCell ⟨br, 0, none⟩ (.bool p)).drew d' y ∧
      WideAt ((w5.setCell ⟨bq, 0, none⟩ (.bool !(p == q))).setCell ⟨br, 0, none⟩ (.bool p)).drew bq { k with less := !(p == q) } ∧ WideAt ((w5.setCell ⟨bq, 0, none⟩ (.bool !(p == q))).setCell ⟨br, 0, none⟩ (.bool p)).drew br { r with less := p } ∧
      Below w.heap.size w ((w5.setCell ⟨bq, 0, none⟩ (.bool !(p == q))).setCell ⟨br, 0, none⟩ (.bool p)).drew from
    ⟨wideAt_drew (wideAt_far (wideAt_far D.out.wx ⟨bq, 0, none⟩ n1 _) ⟨br, 0, none⟩ n2 _), wideAt_drew (wideAt_far (wideAt_far D.out.wy ⟨bq, 0, none⟩ n3 _) ⟨br, 0, none⟩ n4 _),
     wideAt_drew (wideAt_far (wideAt_set_less D.out.wk _) ⟨br, 0, none⟩ n5 _), wideAt_drew (wideAt_set_less (wideAt_far D.out.wr ⟨bq, 0, none⟩ n5' _) _),
     ((D.out.below.setCell (p := ⟨bq, 0, none⟩) D.out.low.2.2.1 _).setCell (p := ⟨br, 0, none⟩) D.out.low.2.2.2 _).drew⟩)
  generalize ((w5.setCell ⟨bq, 0, none⟩ (.bool !(p == q))).setCell ⟨br, 0, none⟩ (.bool p)).drew = W at E ⊢
  clear c1 c2 c3 c4 f3 f4
  have c1 := wideAt_less E.out.1
  have c2 := wideAt_less E.out.2.1
  rw [D.out.hp] at c1
  rw [D.out.hq] at c2
  have c4 := wideAt_n E.out.2.2.2.1
  obtain ⟨nn, hnn⟩ : ∃ nn, r.n = nn := ⟨_, rfl⟩
  replace c4 : W.cell? ⟨br, 1, none⟩ = some (.int .i64 (nn : Int)) := by rw [← hnn]; exact c4
  have okk : WideOk { k with less := !(p == q) } := ⟨D.out.okk.len, D.out.okk.ok, D.out.okk.le, D.out.okk.zero, D.out.okk.trim⟩
  have okr : WideOk { r with less := p } := ⟨D.out.okr.len, D.out.okr.ok, D.out.okr.le, D.out.okr.zero, D.out.okr.trim⟩
  have hv : 0 < y.m := by have h1 := D.out.lt; have h2 := D.out.okr.nonneg; omega
  -- the walk's end where nothing is to be mended
  have HTx := Lib.hid (fun (h1 : ({ k with less := !(p == q) } : Wide).z = a.fdiv b) w6 (h : Below W.heap.size W w6) => show Calls Tryz.prog 165 #[.pointer (some ⟨bq, 0, none⟩)] w6 fun e w' => e = .returned (.string (T (a.fdiv b))) ∧ Below w6.heap.size w6 w' by
    rw [← h1]; exact text_calls bq _ w6 (wideAt_below E.out.2.2.1 h) okk (tab_below (tab_below HT.out E.out.2.2.2.2) h))
  have HTr := Lib.hid (fun (h2 : ({ r with less := p } : Wide).z = a - a.fdiv b * b) w6 (h : Below W.heap.size W w6) => show Calls Tryz.prog 165 #[.pointer (some ⟨br, 0, none⟩)] w6 fun e w' => e = .returned (.string (T (a - a.fdiv b * b))) ∧ Below w6.heap.size w6 w' by
    rw [← h2]; exact text_calls br _ w6 (wideAt_below E.out.2.2.2.1 h) okr (tab_below (tab_below HT.out E.out.2.2.2.2) h))
  have HZ := Lib.hid (And.intro okk (And.intro okr (And.intro hv hnn)))
  clear okk okr hv hnn
  have hWB := Lib.hid E.out.2.2.2.2
  by_cases hpq : p = q
  · subst hpq
    have h1 := parted_same D.out.az D.out.bz HZ.out.2.2.1 D.out.e D.out.okr.nonneg D.out.lt
    have HT1 := Lib.hid (HTx.out (by rw [← h1.1]; unfold Wide.z Wide.m; simp))
    have HT2 := Lib.hid (HTr.out (by rw [← h1.2]; rfl))
    clear HTx HTr h1 n1 n2 n3 n4 n5 n5' E D HZ
    cases nn with
    | zero =>
      go_wp2
      go_quiet (fail)
      go_wp2_with (go_at_call 165; fail)
      refine (HT1.out _ (pw_below_drewN (Below.refl _ _) _)).mono ?_
      rintro e w7 ⟨rfl, hw7⟩
      have hB7 := below_below (pw_below_drewN (Below.refl W.heap.size W) nq) (Nat.le_refl _) hw7
      go_wp2_with (go_at_call 165; fail)
      refine (HT2.out _ hB7).mono ?_
      rintro e w8 ⟨rfl, hw8⟩
      go_wp2
      go_ret3
      exact ⟨rfl, below_below hWB.out hWB.out.size (below_below hB7 hB7.size hw8)⟩
    | succ nn =>
      cases p
      all_goals
        go_wp2
        go_quiet (fail)
        go_wp2_with (go_at_call 165; fail)
        refine (HT1.out _ (pw_below_drewN (Below.refl _ _) _)).mono ?_
        rintro e w7 ⟨rfl, hw7⟩
        have hB7 := below_below (pw_below_drewN (Below.refl W.heap.size W) nq) (Nat.le_refl _) hw7
        go_wp2_with (go_at_call 165; fail)
        refine (HT2.out _ hB7).mono ?_
        rintro e w8 ⟨rfl, hw8⟩
        go_wp2
        go_ret3
        exact ⟨rfl, below_below hWB.out hWB.out.size (below_below hB7 hB7.size hw8)⟩
  · obtain rfl : q = !p := by cases p <;> cases q <;> simp_all
    have hb' : b = if p then y.m else -y.m := by
      have := D.out.bz
      cases p <;> simpa using this
    cases nn with
    | zero =>
      have hr0 : r.m = 0 := D.out.okr.n_zero.1 HZ.out.2.2.2
      have h1 := parted_zero D.out.az hb' HZ.out.2.2.1 D.out.e hr0
      have HT1 := Lib.hid (HTx.out (by rw [← h1.1]; unfold Wide.z Wide.m; cases p <;> simp))
      have HT2 := Lib.hid (HTr.out (by
        rw [← h1.2]
        unfold Wide.z
        have h2 : ({ r with less := p } : Wide).m = 0 := hr0
        rw [h2]; cases p <;> rfl))
      clear hb' HTx HTr h1 n1 n2 n3 n4 n5 n5' E D HZ
      go_wp2
      go_quiet (fail)
      go_wp2_with (go_at_call 165; fail)
      refine (HT1.out _ (pw_below_drewN (Below.refl _ _) _)).mono ?_
      rintro e w7 ⟨rfl, hw7⟩
      have hB7 := below_below (pw_below_drewN (Below.refl W.heap.size W) nq) (Nat.le_refl _) hw7
      go_wp2_with (go_at_call 165; fail)
      refine (HT2.out _ hB7).mono ?_
      rintro e w8 ⟨rfl, hw8⟩
      go_wp2
      go_ret3
      exact ⟨rfl, below_below hWB.out hWB.out.size (below_below hB7 hB7.size hw8)⟩
    | succ nn =>
      have hr0 : 0 < r.m := by
        have h1 := D.out.okr.nonneg
        have h2 : r.m ≠ 0 := fun h => by have := D.out.okr.n_zero.2 h; rw [HZ.out.2.2.2] at this; cases this
        omega
      have h1 := Lib.hid (parted_other D.out.az hb' HZ.out.2.2.1 D.out.e hr0 D.out.lt)
      have hroom := Lib.hid (mended_room D.out)
      have hyz := Lib.hid (show y.z = b by rw [D.out.bz]; unfold Wide.z; rw [D.out.hq])
      clear hb' hr0 HTx HTr
      cases p with
      | false =>
        go_wp2
        go_quiet (fail)
        go_upto_region 17 with fail
        have E6 := Lib.hid (show WideAt ((W.drewN nq).alloc (.cells ((Tryz.zeroCells168.setIfInBounds 0 (.bool true)).setIfInBounds 1 (.int .i64 1)) 168)) W.heap.size ⟨true, 1, zeroW⟩ ∧
            Below W.heap.size W ((W.drewN nq).alloc (.cells ((Tryz.zeroCells168.setIfInBounds 0 (.bool true)).setIfInBounds 1 (.int .i64 1)) 168)) ∧
            W.heap.size < ((W.drewN nq).alloc (.cells ((Tryz.zeroCells168.setIfInBounds 0 (.bool true)).setIfInBounds 1 (.int .i64 1)) 168)).heap.size from
          ⟨wideAt_one _, (pw_below_drewN (Below.refl _ W) nq).alloc (Nat.le_refl _) _, by simp⟩)
        generalize ((W.drewN nq).alloc (.cells ((Tryz.zeroCells168.setIfInBounds 0 (.bool true)).setIfInBounds 1 (.int .i64 1)) 168)) = W6 at E6 ⊢
        have lq := wideAt_lt E.out.2.2.1
        have lr := wideAt_lt E.out.2.2.2.1
        have ly := wideAt_lt E.out.2.1
        obtain ⟨o, ho⟩ : ∃ o, W.heap.size = o := ⟨_, rfl⟩
        have k6 := wideAt_below E.out.2.2.1 E6.out.2.1
        have r6 := wideAt_below E.out.2.2.2.1 E6.out.2.1
        have y6 := wideAt_below E.out.2.1 E6.out.2.1
        have o6 := E6.out.1
        have b6 := E6.out.2.1
        rw [ho] at o6 b6 lq lr ly
        have g1 := wideAt_w o6 0 (by show 0 < zeroW.length; rw [zeroW_len]; decide)
        replace g1 : W6.cell? ⟨o, 2, none⟩ = some (.int .i64 0) := by rw [show (2 : Nat) = 2 + 0 from rfl, g1]; rw [show (Wide.mk true 1 zeroW).ws.getD 0 0 = 0 from zeroW_at 0]
        have g2 := wideAt_frozen o6 2
        have g3 := wideAt_less k6
        have g4 := wideAt_frozen k6 0
        have noq : o ≠ bq := by omega
        have noq' : bq ≠ o := by omega
        have E7 := Lib.hid (show WideAt ((W6.setCell ⟨o, 2, none⟩ (.int .i64 1)).setCell ⟨bq, 0, none⟩ (.bool true)) o ⟨true, 1, zeroW.set 0 1⟩ ∧ WideAt ((W6.setCell ⟨o, 2, none⟩ (.int .i64 1)).setCell ⟨bq, 0, none⟩ (.bool true)) bq { k with less := true } ∧
            WideAt ((W6.setCell ⟨o, 2, none⟩ (.int .i64 1)).setCell ⟨bq, 0, none⟩ (.bool true)) br { r with less := false } ∧ WideAt ((W6.setCell ⟨o, 2, none⟩ (.int .i64 1)).setCell ⟨bq, 0, none⟩ (.bool true)) d' y ∧
            Below w.heap.size w ((W6.setCell ⟨o, 2, none⟩ (.int .i64 1)).setCell ⟨bq, 0, none⟩ (.bool true)) from
          ⟨wideAt_far (wideAt_set_w (x := ⟨true, 1, zeroW⟩) o6 0 1) ⟨bq, 0, none⟩ noq _, wideAt_set_less (x := { k with less := true }) (wideAt_far k6 ⟨o, 2, none⟩ noq' _) true,
           wideAt_far (wideAt_far r6 ⟨o, 2, none⟩ (by show br ≠ o; omega) _) ⟨bq, 0, none⟩ n5' _, wideAt_far (wideAt_far y6 ⟨o, 2, none⟩ (by show d' ≠ o; omega) _) ⟨bq, 0, none⟩ n3 _,
           ((below_below E.out.2.2.2.2 (by have := E.out.2.2.2.2.size; omega) (by rw [ho]; exact b6)).setCell (p := ⟨o, 2, none⟩) (by have := E.out.2.2.2.2.size; show w.heap.size ≤ o; omega) _).setCell (p := ⟨bq, 0, none⟩) D.out.low.2.2.1 _⟩)
        rw [ho]
        go_wp2_with (go_at_call 173; fail)
        generalize ((W6.setCell ⟨o, 2, none⟩ (.int .i64 1)).setCell ⟨bq, 0, none⟩ (.bool true)) = W7 at E7 ⊢
        clear k6 r6 y6 o6 b6 g1 g2 g3 g4 lq lr ly
        have okq : WideOk { k with less := true } := HZ.out.1
        refine (plus_calls bq o { k with less := true } ⟨true, 1, zeroW.set 0 1⟩ W7 noq' E7.out.2.1 E7.out.1 okq one_ok (by have := hroom.out.1; show k.m + mag (zeroW.set 0 1) < _; rw [one_m]; exact this)).mono ?_
        rintro e w8 ⟨rfl, zk, q1, q2, q3, q4⟩
        have q5 : zk.z = a.fdiv b := by
          rw [q3, ← h1.out.1]
          unfold Wide.z
          rw [if_pos rfl, if_pos rfl]
          show -k.m + -(mag (zeroW.set 0 1)) = _
          rw [one_m]; omega
        have hB8 := below_ch E7.out.2.2.2.2 E7.out.2.2.2.2.size q4 (fun i hi => by rw [hi]; exact D.out.low.2.2.1)
        have r8 := wideAt_ch E7.out.2.2.1 q4 n5'
        have y8 := wideAt_ch E7.out.2.2.2.1 q4 n3
        have E8 := Lib.hid (And.intro q1 (And.intro q2 (And.intro q5 (And.intro hB8 (And.intro r8 y8)))))
        clear q1 q2 q3 q4 q5 hB8 r8 y8 E7
        go_wp2_with (go_at_call 173; fail)
        refine (plus_calls br d' { r with less := false } y w8 (Ne.symm n4) E8.out.2.2.2.2.1 E8.out.2.2.2.2.2 HZ.out.2.1 D.out.oky hroom.out.2).mono ?_
        rintro e w9 ⟨rfl, zr, q1, q2, q3, q4⟩
        have q5 : zr.z = a - a.fdiv b * b := by
          rw [q3, ← h1.out.2, hyz.out]; rfl
        have hB9 := below_ch E8.out.2.2.2.1 E8.out.2.2.2.1.size q4 (fun i hi => by rw [hi]; exact D.out.low.2.2.2)
        have k9 := wideAt_ch E8.out.1 q4 n5
        have E9 := Lib.hid (And.intro q1 (And.intro q2 (And.intro q5 (And.intro hB9 k9))))
        clear q1 q2 q3 q4 q5 hB9 k9
        go_wp2_with (go_at_call 165; fail)
        refine (text_calls bq zk w9 E9.out.2.2.2.2 E8.out.2.1 (tab_below HT.out E9.out.2.2.2.1)).mono ?_
        rw [E8.out.2.2.1]
        rintro e w10 ⟨rfl, hw10⟩
        have hB10 := below_below E9.out.2.2.2.1 E9.out.2.2.2.1.size hw10
        go_wp2_with (go_at_call 165; fail)
        refine (text_calls br zr w10 (wideAt_below E9.out.1 hw10) E9.out.2.1 (tab_below HT.out hB10)).mono ?_
        rw [E9.out.2.2.1]
        rintro e w11 ⟨rfl, hw11⟩
        go_wp2
        go_ret3
        exact ⟨rfl, below_below hB10 hB10.size hw11⟩
      | true =>
        go_wp2
        go_quiet (fail)
        go_upto_region 17 with fail
        have E6 := Lib.hid (show WideAt ((W.drewN nq).alloc (.cells ((Tryz.zeroCells168.setIfInBounds 0 (.bool true)).setIfInBounds 1 (.int .i64 1)) 168)) W.heap.size ⟨true, 1, zeroW⟩ ∧
            Below W.heap.size W ((W.drewN nq).alloc (.cells ((Tryz.zeroCells168.setIfInBounds 0 (.bool true)).setIfInBounds 1 (.int .i64 1)) 168)) ∧
            W.heap.size < ((W.drewN nq).alloc (.cells ((Tryz.zeroCells168.setIfInBounds 0 (.bool true)).setIfInBounds 1 (.int .i64 1)) 168)).heap.size from
          ⟨wideAt_one _, (pw_below_drewN (Below.refl _ W) nq).alloc (Nat.le_refl _) _, by simp⟩)
        generalize ((W.drewN nq).alloc (.cells ((Tryz.zeroCells168.setIfInBounds 0 (.bool true)).setIfInBounds 1 (.int .i64 1)) 168)) = W6 at E6 ⊢
        have lq := wideAt_lt E.out.2.2.1
        have lr := wideAt_lt E.out.2.2.2.1
        have ly := wideAt_lt E.out.2.1
        obtain ⟨o, ho⟩ : ∃ o, W.heap.size = o := ⟨_, rfl⟩
        have k6 := wideAt_below E.out.2.2.1 E6.out.2.1
        have r6 := wideAt_below E.out.2.2.2.1 E6.out.2.1
        have y6 := wideAt_below E.out.2.1 E6.out.2.1
        have o6 := E6.out.1
        have b6 := E6.out.2.1
        rw [ho] at o6 b6 lq lr ly
        have g1 := wideAt_w o6 0 (by show 0 < zeroW.length; rw [zeroW_len]; decide)
        replace g1 : W6.cell? ⟨o, 2, none⟩ = some (.int .i64 0) := by rw [show (2 : Nat) = 2 + 0 from rfl, g1]; rw [show (Wide.mk true 1 zeroW).ws.getD 0 0 = 0 from zeroW_at 0]
        have g2 := wideAt_frozen o6 2
        have g3 := wideAt_less k6
        have g4 := wideAt_frozen k6 0
        have noq : o ≠ bq := by omega
        have noq' : bq ≠ o := by omega
        have E7 := Lib.hid (show WideAt ((W6.setCell ⟨o, 2, none⟩ (.int .i64 1)).setCell ⟨bq, 0, none⟩ (.bool true)) o ⟨true, 1, zeroW.set 0 1⟩ ∧ WideAt ((W6.setCell ⟨o, 2, none⟩ (.int .i64 1)).setCell ⟨bq, 0, none⟩ (.bool true)) bq { k with less := true } ∧
            WideAt ((W6.setCell ⟨o, 2, none⟩ (.int .i64 1)).setCell ⟨bq, 0, none⟩ (.bool true)) br { r with less := true } ∧ WideAt ((W6.setCell ⟨o, 2, none⟩ (.int .i64 1)).setCell ⟨bq, 0, none⟩ (.bool true)) d' y ∧
            Below w.heap.size w ((W6.setCell ⟨o, 2, none⟩ (.int .i64 1)).setCell ⟨bq, 0, none⟩ (.bool true)) from
          ⟨wideAt_far (wideAt_set_w (x := ⟨true, 1, zeroW⟩) o6 0 1) ⟨bq, 0, none⟩ noq _, wideAt_set_less (x := { k with less := true }) (wideAt_far k6 ⟨o, 2, none⟩ noq' _) true,
           wideAt_far (wideAt_far r6 ⟨o, 2, none⟩ (by show br ≠ o; omega) _) ⟨bq, 0, none⟩ n5' _, wideAt_far (wideAt_far y6 ⟨o, 2, none⟩ (by show d' ≠ o; omega) _) ⟨bq, 0, none⟩ n3 _,
           ((below_below E.out.2.2.2.2 (by have := E.out.2.2.2.2.size; omega) (by rw [ho]; exact b6)).setCell (p := ⟨o, 2, none⟩) (by have := E.out.2.2.2.2.size; show w.heap.size ≤ o; omega) _).setCell (p := ⟨bq, 0, none⟩) D.out.low.2.2.1 _⟩)
        rw [ho]
        go_wp2_with (go_at_call 173; fail)
        generalize ((W6.setCell ⟨o, 2, none⟩ (.int .i64 1)).setCell ⟨bq, 0, none⟩ (.bool true)) = W7 at E7 ⊢
        clear k6 r6 y6 o6 b6 g1 g2 g3 g4 lq lr ly
        have okq : WideOk { k with less := true } := HZ.out.1
        refine (plus_calls bq o { k with less := true } ⟨true, 1, zeroW.set 0 1⟩ W7 noq' E7.out.2.1 E7.out.1 okq one_ok (by have := hroom.out.1; show k.m + mag (zeroW.set 0 1) < _; rw [one_m]; exact this)).mono ?_
        rintro e w8 ⟨rfl, zk, q1, q2, q3, q4⟩
        have q5 : zk.z = a.fdiv b := by
          rw [q3, ← h1.out.1]
          unfold Wide.z
          rw [if_pos rfl, if_pos rfl]
          show -k.m + -(mag (zeroW.set 0 1)) = _
          rw [one_m]; omega
        have hB8 := below_ch E7.out.2.2.2.2 E7.out.2.2.2.2.size q4 (fun i hi => by rw [hi]; exact D.out.low.2.2.1)
        have r8 := wideAt_ch E7.out.2.2.1 q4 n5'
        have y8 := wideAt_ch E7.out.2.2.2.1 q4 n3
        have E8 := Lib.hid (And.intro q1 (And.intro q2 (And.intro q5 (And.intro hB8 (And.intro r8 y8)))))
        clear q1 q2 q3 q4 q5 hB8 r8 y8 E7
        go_wp2_with (go_at_call 173; fail)
        refine (plus_calls br d' { r with less := true } y w8 (Ne.symm n4) E8.out.2.2.2.2.1 E8.out.2.2.2.2.2 HZ.out.2.1 D.out.oky hroom.out.2).mono ?_
        rintro e w9 ⟨rfl, zr, q1, q2, q3, q4⟩
        have q5 : zr.z = a - a.fdiv b * b := by
          rw [q3, ← h1.out.2, hyz.out]; rfl
        have hB9 := below_ch E8.out.2.2.2.1 E8.out.2.2.2.1.size q4 (fun i hi => by rw [hi]; exact D.out.low.2.2.2)
        have k9 := wideAt_ch E8.out.1 q4 n5
        have E9 := Lib.hid (And.intro q1 (And.intro q2 (And.intro q5 (And.intro hB9 k9))))
        clear q1 q2 q3 q4 q5 hB9 k9
        go_wp2_with (go_at_call 165; fail)
        refine (text_calls bq zk w9 E9.out.2.2.2.2 E8.out.2.1 (tab_below HT.out E9.out.2.2.2.1)).mono ?_
        rw [E8.out.2.2.1]
        rintro e w10 ⟨rfl, hw10⟩
        have hB10 := below_below E9.out.2.2.2.1 E9.out.2.2.2.1.size hw10
        go_wp2_with (go_at_call 165; fail)
        refine (text_calls br zr w10 (wideAt_below E9.out.1 hw10) E9.out.2.1 (tab_below HT.out hB10)).mono ?_
        rw [E9.out.2.2.1]
        rintro e w11 ⟨rfl, hw11⟩
        go_wp2
        go_ret3
        exact ⟨rfl, below_below hB10 hB10.size hw11⟩
theorem parted_calls (a b : Int) (w : World) (ha : fits a = true) (hb : fits b = true) (ht : Tab w) (h0 : b ≠ 0) :
    Calls Tryz.prog 182 #[.string (T a), .string (T b)] w (PartedPost a b w) := by
  by_cases hs : (T a).size ≤ 9 ∧ (T b).size ≤ 9
  · exact parted_small a b w ha hb ht h0 hs
  · exact parted_large a b w ha hb ht h0 hs
theorem quo_fits {a b : Int} (ha : fits a = true) (h0 : b ≠ 0) : fits (a.fdiv b) = true := by
  have h1 := fits_lt.1 ha
  have h2 := fdiv_abs a b h0
  exact fits_lt.2 (by omega)
set_option maxHeartbeats 1000000 in
theorem quo_calls (a b : Int) (w : World) (ha : fits a = true) (hb : fits b = true) (ht : Tab w) (h0 : b ≠ 0) :
    Calls Tryz.prog 153 #[.string (T a), .string (T b)] w fun e w' => e = .returned (.tuple #[.string (T (a.fdiv b)), .int .i64 0]) ∧ Below w.heap.size w w' := by
  have HP := Lib.hid (parted_calls a b w ha hb ht h0)
  have hq := quo_fits ha h0
  have HC := Lib.hid (fun w => check_calls (T (a.fdiv b)) (by have := fits_size hq; omega) w)
  have e : chkL (T (a.fdiv b)).data.toList = 0 := by
    rw [show (T (a.fdiv b)).data.toList = Lib.itoa (a.fdiv b) from rfl, chkL_itoa, hq]; rfl
  rw [e] at HC
  clear e ha hb hq ht h0
  unfold PartedPost at HP
  generalize T (a.fdiv b) = q at *
  generalize T (a - a.fdiv b * b) = r at *
  generalize T a = s at *
  generalize T b = t at *
  go_enter Tryz.func153, Tryz.ntmps153
  go_wp2_with (go_at_call 182; refine (HP.out).mono ?_; rintro e w1 ⟨rfl, hw1⟩)
  go_wp2_with (go_at_call 114; refine (HC.out _).mono ?_; rintro e w2 ⟨rfl, hw2⟩)
  go_ret2
  exact ⟨rfl, below_below hw1 hw1.size hw2⟩
end Go.Proofs.YtdkfebfedfemaaaGreatDoor
