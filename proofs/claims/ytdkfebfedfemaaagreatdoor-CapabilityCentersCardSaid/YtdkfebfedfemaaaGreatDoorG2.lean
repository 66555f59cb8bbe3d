/- CapabilityCenters walked. -/
import Derived.Test.YtdkfebfedfemaaaGreatDoorG3
import Derived.Test.YtdkfebfedfemaaaGreatDoorG1
set_option linter.unusedVariables false
set_option linter.unusedSimpArgs false
namespace Go.Proofs.YtdkfebfedfemaaaGreatDoor
open Go.RowKit Go.Mlab

theorem nmul_le {a b : Int} {p q : Nat} (ha : a.natAbs ≤ p) (hb : b.natAbs ≤ q) : (a * b).natAbs ≤ p * q := by
  rw [Int.natAbs_mul]; exact Nat.mul_le_mul ha hb
theorem cmp_size_calls (r s : Rat) (w : World) (hr : sizeR 100 r) (hs : sizeR 100 s) (hT : Tab w) :
    Calls Tryz.prog 40 #[.string (Q r), .string (Q s)] w fun e w' => e = .returned (.tuple #[.int .i64 (cmpQ r s), .int .i64 0]) ∧ Below w.heap.size w w' := by
  have n1 : ∀ q : Rat, (q.den : Int).natAbs = q.den := fun q => Int.natAbs_natCast _
  exact rat_cmp_calls r s w (sizeR_fits hr (by decide)) (sizeR_fits hs (by decide))
    (fits_pow (natAbs_mul_lt hr.1 (by rw [n1]; exact hs.2)) (by decide)) (fits_pow (natAbs_mul_lt hs.1 (by rw [n1]; exact hr.2)) (by decide)) hT
theorem vnum_size {xs : List Int} (ht : Tame xs) : (vnum xs).natAbs ≤ 1000000000000000000000 := by
  have hl := ht.1
  have q1 := tame_isq ht
  have s1 := tame_isum ht
  have b1 : (isum xs).natAbs * (isum xs).natAbs ≤ 17179869184 * 17179869184 := Nat.mul_le_mul (by omega) (by omega)
  have b2 : (isum xs * isum xs).natAbs = (isum xs).natAbs * (isum xs).natAbs := Int.natAbs_mul _ _
  have b3 : xs.length * (isq xs).natAbs ≤ 4096 * (4096 * 17592186044416) := Nat.mul_le_mul (by omega) (by omega)
  have b4 : ((xs.length : Int) * isq xs).natAbs = xs.length * (isq xs).natAbs := by rw [Int.natAbs_mul]; rfl
  unfold vnum
  omega
theorem vden_size {xs : List Int} (ht : Tame xs) : (vden xs).natAbs ≤ 4096 * 4096 := nmul_le (by have := ht.1; omega) (by have := ht.1; omega)
theorem dist_size {xs : List Int} {lo hi : Int} (ht : Tame xs) (h1 : -1048576 ≤ lo) (h2 : hi ≤ 1048576) (h3 : lo ≤ hi) : (dist xs lo hi).natAbs ≤ 100000000000 := by
  have s1 := tame_isum ht
  have a1 : ((xs.length : Int) * hi).natAbs ≤ 4096 * 1048576 := nmul_le (by have := ht.1; omega) (by omega)
  have a2 : ((xs.length : Int) * lo).natAbs ≤ 4096 * 1048576 := nmul_le (by have := ht.1; omega) (by omega)
  unfold dist
  omega
theorem capb_size {xs : List Int} {lo hi : Int} (ht : Tame xs) (h1 : -1048576 ≤ lo) (h2 : hi ≤ 1048576) (h3 : lo ≤ hi) (h4 : 0 < vnum xs) : sizeR 100 (capb xs lo hi) := by
  rw [capb_divInt]
  have a0 : (hi - lo).natAbs ≤ 2097152 := by omega
  have a1 := nmul_le (nmul_le a0 a0) (vden_size ht)
  have a2 := vnum_size ht
  exact sizeR_divInt (by omega) (pow100 (by omega)) (pow100 (by omega))
theorem cenb_size {xs : List Int} {lo hi : Int} (ht : Tame xs) (h0 : 0 < xs.length) (h1 : -1048576 ≤ lo) (h2 : hi ≤ 1048576) (h3 : lo ≤ hi) (h4 : 0 < vnum xs) : sizeR 100 (cenb xs lo hi) := by
  rw [cenb_divInt]
  have a0 := dist_size ht h1 h2 h3
  have a1 := nmul_le (nmul_le a0 a0) (vden_size ht)
  have a2 := vnum_size ht
  have a3 : ((xs.length : Int)).natAbs ≤ 4096 := by have := ht.1; omega
  have a4 : (9 * vnum xs).natAbs ≤ 9000000000000000000000 := by omega
  have a5 := nmul_le (nmul_le a3 a3) a4
  have hl : 0 < (xs.length : Int) := by omega
  have hp : 0 < (xs.length : Int) * xs.length * (9 * vnum xs) := Int.mul_pos (Int.mul_pos hl hl) (by omega)
  exact sizeR_divInt (by omega) (pow100 (by omega)) (pow100 (by omega))
theorem avg_size {xs : List Int} (ht : Tame xs) (h0 : 0 < xs.length) : sizeR 100 (avg xs) := by
  have s1 := tame_isum ht
  have := ht.1
  exact sizeR_divInt (by omega) (pow100 (by omega)) (pow100 (by omega))
set_option maxRecDepth 100000 in
set_option maxHeartbeats 8000000 in
theorem centers_yes (A : Option Addr) (c : Nat) (xs : List Int) (lo hi : Int) (w : World) (hx : IntsAt w A c xs) (hT : Tab w) (h1 : rightB xs = true) (h2 : givE xs lo hi = 0) (h3 : wid xs ≠ 0) :
    Calls Tryz.prog 9 #[.slice A xs.length c, .agg #[.int .i64 lo, .int .i64 hi]] w (LawPost w) := by
  have H0 := Lib.hid (LimW.new hx lo hi)
  have HR := Lib.hid (right_calls A c xs _ H0.out.ints)
  have HG := Lib.hid (given_calls A c xs lo hi _ H0.out.ints)
  have hr := rightB_iff.1 h1
  have hg := givE_ser h2
  rw [h1] at HR
  rw [h2] at HG
  obtain ⟨b0, o0, rfl⟩ := ints_some hx (by omega)
  have ht := tame_of hg.1
  have hv := vnum_pos (xs := xs) (by omega) h3
  have hE : vryE xs lo hi = 0 := by
    unfold vryE
    rw [h2, if_neg (by decide), if_neg (by omega), if_neg (fun h => h3 ((vari_zero (by omega)).1 h))]
  have HOK := Lib.hid (cen_ok (xs := xs) (lo := lo) (hi := hi) (by omega) h3 hg.2.2.1)
  have hM1 := maxOf_le (c := 8000) (l := xs) (by intro q; rw [q] at hr; simp at hr) (fun x hx => (hr.2.2 x hx).2)
  have hM2 := le_minOf (c := -8000) (l := xs) (by intro q; rw [q] at hr; simp at hr) (fun x hx => (hr.2.2 x hx).1)
  have hM3 := min_le_max (l := xs) (by intro q; rw [q] at hr; simp at hr)
  have hmm : (Lib.minOf xs == Lib.maxOf xs) = false := by
    rw [beq_eq_false_iff_ne]
    intro e
    apply h3
    unfold wid
    omega
  obtain ⟨n, hn⟩ : ∃ n, xs.length = n := ⟨_, rfl⟩
  have HAw := Lib.hid (fun w1 (k : Below w.heap.size w w1) => awake_calls w1 (tab_below hT k))
  have HMx := Lib.hid (fun W (k : LimW w (some ⟨b0, o0, none⟩) c xs lo hi W) => max_calls _ _ c n xs W k.ints hn (by omega))
  have HMn := Lib.hid (fun W (k : LimW w (some ⟨b0, o0, none⟩) c xs lo hi W) => min_calls _ _ c n xs W k.ints hn (by omega))
  have HCap := Lib.hid (fun W (k : LimW w (some ⟨b0, o0, none⟩) c xs lo hi W) => by
    have h := cap_Cap_calls _ c xs lo hi W k.ints (k.tab hT)
    rw [hE, hn] at h
    unfold resV at h
    rw [if_pos rfl] at h
    exact h)
  have HCen := Lib.hid (fun W (k : LimW w (some ⟨b0, o0, none⟩) c xs lo hi W) => by
    have h := cap_Cen_calls _ c xs lo hi W k.ints (k.tab hT)
    rw [hE, hn] at h
    unfold cenV at h
    rw [if_pos rfl, if_pos rfl] at h
    exact h)
  have HMean := Lib.hid (fun W (k : LimW w (some ⟨b0, o0, none⟩) c xs lo hi W) => by
    have h := cap_Mean_calls _ c xs W k.ints (k.tab hT)
    rw [hg.1, hn] at h
    unfold resV at h
    rw [if_pos rfl] at h
    exact h)
  have HWl := Lib.hid (fun W => rwhole_calls lo W (by omega))
  have HWh := Lib.hid (fun W => rwhole_calls hi W (by omega))
  have HO := Lib.hid (fun W => over_small (lo + hi) 2 W (by decide) (by omega) (by decide))
  have sa := avg_size ht (by omega)
  have HC1 := Lib.hid (fun W (k : LimW w (some ⟨b0, o0, none⟩) c xs lo hi W) => by
    have h := cmp_size_calls (avg xs) (lo : Rat) W sa (sizeR_int (pow100 (by omega)) (by decide)) (k.tab hT)
    rw [Q_int] at h
    exact h)
  have HC2 := Lib.hid (fun W (k : LimW w (some ⟨b0, o0, none⟩) c xs lo hi W) => by
    have h := cmp_size_calls (avg xs) (hi : Rat) W sa (sizeR_int (pow100 (by omega)) (by decide)) (k.tab hT)
    rw [Q_int] at h
    exact h)
  have HC3 := Lib.hid (fun W (k : LimW w (some ⟨b0, o0, none⟩) c xs lo hi W) => cmp_size_calls (avg xs) (Rat.divInt (lo + hi) 2) W sa (sizeR_divInt (by decide) (pow100 (by omega)) (pow100 (by decide))) (k.tab hT))
  have HC4 := Lib.hid (fun W (k : LimW w (some ⟨b0, o0, none⟩) c xs lo hi W) => cmp_size_calls (cenb xs lo hi) (capb xs lo hi) W (cenb_size ht (by omega) hg.2.1 hg.2.2.2 hg.2.2.1 hv) (capb_size ht hg.2.1 hg.2.2.2 hg.2.2.1 hv) (k.tab hT))
  unfold LowPost at HO
  have hlb : -1048576 ≤ lo := hg.2.1
  have hlb2 : lo ≤ 1048576 := by omega
  have hhb : hi ≤ 1048576 := hg.2.2.2
  have hhb2 : -1048576 ≤ hi := by omega
  have hm0 : Lib.maxOf xs ≤ 8000 := hM1
  have HT := Lib.hid hT
  rw [hn] at HR HG ⊢
  clear hx hT h1 h2 h3 hr hg ht hv hE sa hn
  generalize Lib.compareInt (dist xs lo hi) 0 = s at *
  generalize cmpQ (avg xs) (lo : Rat) = low at *
  generalize cmpQ (avg xs) (hi : Rat) = high at *
  generalize cmpQ (avg xs) (Rat.divInt (lo + hi) 2) = mid at *
  generalize cmpQ (cenb xs lo hi) (capb xs lo hi) = nn at *
  generalize Q (avg xs) = qa at *
  generalize Q (capb xs lo hi) = qc at *
  generalize Q (cenb xs lo hi) = qd at *
  generalize Q (Rat.divInt (lo + hi) 2) = qm at *
  generalize T lo = tl at *
  generalize T hi = th at *
  generalize Lib.maxOf xs = mx at *
  generalize Lib.minOf xs = mn at *
  go_enter Tryz.func9, Tryz.ntmps9
  go_wp2_with (go_at_call 31; fail)
  refine (HR.out).mono ?_
  rintro e w1 ⟨rfl, rfl⟩
  have l1 := H0.out.lo
  have k1 := H0.out.hi
  go_wp2_with (go_at_call 32; fail)
  refine (HG.out).mono ?_
  rintro e w2 ⟨rfl, hw2⟩
  have H2 := Lib.hid (H0.out.next hw2)
  clear hw2 HR HG l1 k1
  have l2 := H2.out.lo
  have k2 := H2.out.hi
  go_wp2_with (go_at_call 37; refine (HMn.out _ H2.out).mono ?_; rintro e w3 ⟨rfl, rfl⟩)
  go_wp2_with (go_at_call 36; refine (HMx.out _ H2.out).mono ?_; rintro e w3 ⟨rfl, rfl⟩)
  go_wp2_with (go_at_call 20; fail)
  refine (HCap.out _ H2.out).mono ?_
  rintro e w4 ⟨rfl, hw4⟩
  have H4 := Lib.hid (H2.out.next hw4)
  clear hw4 l2 k2
  have l4 := H4.out.lo
  have k4 := H4.out.hi
  go_wp2_with (go_at_call 22; fail)
  refine (HCen.out _ H4.out).mono ?_
  rintro e w5 ⟨rfl, hw5⟩
  have H5 := Lib.hid (H4.out.next hw5)
  clear hw5 l4 k4
  go_wp2_with (go_at_call 12; fail)
  refine (HMean.out _ H5.out).mono ?_
  rintro e w6 ⟨rfl, hw6⟩
  have H6 := Lib.hid (H5.out.next hw6)
  clear hw6
  have l6 := H6.out.lo
  have k6 := H6.out.hi
  go_wp2_with (go_at_call 38; fail)
  refine (HWl.out _).mono ?_
  rintro e w7 ⟨rfl, hw7⟩
  have H7 := Lib.hid (H6.out.next hw7)
  clear hw7 l6 k6
  go_wp2_with (go_at_call 40; fail)
  refine (HC1.out _ H7.out).mono ?_
  rintro e w8 ⟨rfl, hw8⟩
  have H8 := Lib.hid (H7.out.next hw8)
  clear hw8
  have l8 := H8.out.lo
  have k8 := H8.out.hi
  go_wp2_with (go_at_call 38; fail)
  refine (HWh.out _).mono ?_
  rintro e w9 ⟨rfl, hw9⟩
  have H9 := Lib.hid (H8.out.next hw9)
  clear hw9 l8 k8
  go_wp2_with (go_at_call 40; fail)
  refine (HC2.out _ H9.out).mono ?_
  rintro e w10 ⟨rfl, hw10⟩
  have H10 := Lib.hid (H9.out.next hw10)
  clear hw10
  have l10 := H10.out.lo
  have k10 := H10.out.hi
  go_wp2_with (go_at_call 39; fail)
  refine (HO.out _).mono ?_
  rintro e w11 ⟨rfl, hw11⟩
  have H11 := Lib.hid (H10.out.next hw11)
  clear hw11 l10 k10
  go_wp2_with (go_at_call 40; fail)
  refine (HC3.out _ H11.out).mono ?_
  rintro e w12 ⟨rfl, hw12⟩
  have H12 := Lib.hid (H11.out.next hw12)
  clear hw12
  go_wp2_with (go_at_call 40; fail)
  refine (HC4.out _ H12.out).mono ?_
  rintro e w13 ⟨rfl, hw13⟩
  have H13 := Lib.hid (H12.out.next hw13)
  clear hw13 HC1 HC2 HC3 HC4 HO HWl HWh HMean HCen HCap HMx HMn H12 H11 H10 H9 H8 H7 H6 H5 H4 H2 H0
  obtain ⟨hup, hdown, hlast, hbd⟩ := HOK.out
  clear HOK
  have hA := Lib.hid (HAw.out _ H13.out.below)
  have hB13 := Lib.hid H13.out.below
  cases d1 : decide (0 < low) <;> cases d2 : decide (high < 0) <;> cases d3 : decide (low < 0) <;> cases d4 : decide (0 < high) <;>
    (rw [d1, d2] at hup; rw [d3, d4] at hdown; simp only [Bool.and_self, Bool.or_self, Bool.and_false, Bool.false_and, Bool.and_true, Bool.true_and, Bool.or_true, Bool.true_or, Bool.or_false, Bool.false_or] at hup hdown)
  all_goals clear H13 HAw HT hmm hM1 hM2 hM3 hm0
  all_goals (
    first
    | (have hs : ¬ s < 0 := of_decide_eq_false hdown
       have hn0 : nn ≤ 0 := by omega
       have hnm : (nn == 0) = (mid == 0) := by
         have h := hlast.resolve_left hs
         rw [Bool.eq_iff_iff, beq_iff_eq, beq_iff_eq]; exact h.2
       clear hlast hs hbd
       go_wp2_with (go_at_call 11; fail)
       refine (hA.out).mono ?_
       rintro e w14 ⟨rfl, hw14⟩
       go_wp2
       go_ret
       exact ⟨rfl, below_below hB13.out hB13.out.size hw14⟩)
    | (have hs : s < 0 := of_decide_eq_true hdown
       clear hlast hbd
       go_wp2_with (go_at_call 11; fail)
       refine (hA.out).mono ?_
       rintro e w14 ⟨rfl, hw14⟩
       go_wp2
       go_ret
       exact ⟨rfl, below_below hB13.out hB13.out.size hw14⟩))
set_option maxHeartbeats 2000000 in
theorem centers_no (A : Option Addr) (c : Nat) (xs : List Int) (lo hi : Int) (w : World) (hx : IntsAt w A c xs) (hT : Tab w) (h : rightB xs = false ∨ givE xs lo hi ≠ 0 ∨ wid xs = 0) :
    Calls Tryz.prog 9 #[.slice A xs.length c, .agg #[.int .i64 lo, .int .i64 hi]] w (LawPost w) := by
  have H0 := Lib.hid (LimW.new hx lo hi)
  have HR := Lib.hid (right_calls A c xs _ H0.out.ints)
  have HG := Lib.hid (given_calls A c xs lo hi _ H0.out.ints)
  have HAw := Lib.hid (fun w1 (k : Below w.heap.size w w1) => awake_calls w1 (tab_below hT k))
  cases hr : rightB xs with
  | false =>
    rw [hr] at HR
    clear h hr HG hx hT
    generalize xs.length = n at *
    go_enter Tryz.func9, Tryz.ntmps9
    go_wp2_with (go_at_call 31; refine (HR.out).mono ?_; rintro e w1 ⟨rfl, rfl⟩)
    go_wp2_with (go_at_call 11; refine (HAw.out _ H0.out.below).mono ?_; rintro e w2 ⟨rfl, hw2⟩)
    go_ret
    exact ⟨rfl, below_below H0.out.below H0.out.below.size hw2⟩
  | true =>
    have l1 := H0.out.lo
    have k1 := H0.out.hi
    rw [hr] at HR
    by_cases hg : givE xs lo hi = 0
    · have hw0 : wid xs = 0 := by
        rcases h with h | h | h
        · rw [hr] at h; cases h
        · exact absurd hg h
        · exact h
      have hr1 := rightB_iff.1 hr
      obtain ⟨b0, o0, rfl⟩ := ints_some hx (by omega)
      obtain ⟨n, hn⟩ : ∃ n, xs.length = n := ⟨_, rfl⟩
      have HMx := Lib.hid (fun W (k : LimW w (some ⟨b0, o0, none⟩) c xs lo hi W) => max_calls _ _ c n xs W k.ints hn (by omega))
      have HMn := Lib.hid (fun W (k : LimW w (some ⟨b0, o0, none⟩) c xs lo hi W) => min_calls _ _ c n xs W k.ints hn (by omega))
      have hmm : Lib.maxOf xs = Lib.minOf xs := by unfold wid at hw0; omega
      rw [hg] at HG
      rw [hn] at HR HG ⊢
      rw [hmm] at HMx
      clear h hr hg hw0 hr1 hn hmm hx hT
      generalize Lib.minOf xs = mn at *
      go_enter Tryz.func9, Tryz.ntmps9
      go_wp2_with (go_at_call 31; refine (HR.out).mono ?_; rintro e w1 ⟨rfl, rfl⟩)
      go_wp2_with (go_at_call 32; fail)
      refine (HG.out).mono ?_
      rintro e w2 ⟨rfl, hw2⟩
      have H2 := Lib.hid (H0.out.next hw2)
      clear hw2
      go_wp2_with (go_at_call 37; refine (HMn.out _ H2.out).mono ?_; rintro e w3 ⟨rfl, rfl⟩)
      go_wp2_with (go_at_call 36; refine (HMx.out _ H2.out).mono ?_; rintro e w3 ⟨rfl, rfl⟩)
      go_wp2_with (go_at_call 11; fail)
      refine (HAw.out _ H2.out.below).mono ?_
      rintro e w5 ⟨rfl, hw5⟩
      go_wp2
      go_ret
      exact ⟨rfl, below_below H2.out.below H2.out.below.size hw5⟩
    · have hb : (givE xs lo hi != 0) = true := by simpa using hg
      clear h hr hg hx hT
      generalize givE xs lo hi = er at *
      generalize xs.length = n at *
      go_enter Tryz.func9, Tryz.ntmps9
      go_wp2_with (go_at_call 31; refine (HR.out).mono ?_; rintro e w1 ⟨rfl, rfl⟩)
      go_wp2_with (go_at_call 32; refine (HG.out).mono ?_; rintro e w2 ⟨rfl, hw2⟩)
      have hB2 := below_below H0.out.below H0.out.below.size hw2
      go_wp2_with (go_at_call 11; refine (HAw.out _ hB2).mono ?_; rintro e w3 ⟨rfl, hw3⟩)
      go_ret
      exact ⟨rfl, below_below hB2 hB2.size hw3⟩
/-- CapabilityCenters. -/
theorem centers_calls (A : Option Addr) (c : Nat) (xs : List Int) (lo hi : Int) (w : World) (hx : IntsAt w A c xs) (hT : Tab w) :
    Calls Tryz.prog 9 #[.slice A xs.length c, .agg #[.int .i64 lo, .int .i64 hi]] w (LawPost w) := by
  cases h : rightB xs with
  | false => exact centers_no A c xs lo hi w hx hT (.inl h)
  | true =>
    by_cases hg : givE xs lo hi = 0
    · by_cases hw : wid xs = 0
      · exact centers_no A c xs lo hi w hx hT (.inr (.inr hw))
      · exact centers_yes A c xs lo hi w hx hT h hg hw
    · exact centers_no A c xs lo hi w hx hT (.inr (.inl hg))
end Go.Proofs.YtdkfebfedfemaaaGreatDoor
