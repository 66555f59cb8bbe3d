/- CapabilityRuns walked. -/
import Derived.Test.YtdkfebfedfemaaaGreatDoorH5
import Derived.Test.YtdkfebfedfemaaaGreatDoorH6
set_option linter.unusedVariables false
set_option linter.unusedSimpArgs false
namespace Go.Proofs.YtdkfebfedfemaaaGreatDoor
open Go.RowKit Go.Mlab

set_option maxHeartbeats 2000000 in
/-- CapabilityRuns. -/
theorem laws_runs_calls (A : Option Addr) (c : Nat) (xs : List Int) (lo hi groups : Int) (w : World) (hx : IntsAt w A c xs) (hT : Tab w) (hb : -9223372036854775808 ≤ groups ∧ groups ≤ 9223372036854775807) :
    Calls Tryz.prog 6 #[.slice A xs.length c, .agg #[.int .i64 lo, .int .i64 hi], .int .i64 groups] w (LawPost w) := by
  have H0 := Lib.hid (LimW.new hx lo hi)
  have HF := Lib.hid (fun w => few_calls A c xs.length w hx.big)
  have HAw := Lib.hid (fun w1 (k : Below w.heap.size w w1) => awake_calls w1 (tab_below hT k))
  have HP := Lib.hid (fun W (k : IntsAt W A c xs) => runs_all_calls A c xs lo hi W k)
  have HR := Lib.hid (fun W (k : IntsAt W A c xs) => ref_runs_calls A c xs lo hi W k)
  have HS := Lib.hid (fun W (k : IntsAt W A c xs) (t : Tab W) => spread_calls A c xs groups W k t)
  have HU := Lib.hid (fun W (k : IntsAt W A c xs) => ref_spread_calls A c xs groups W k)
  have HT := Lib.hid hT
  clear hx hT hb
  unfold SlPost at HP HR
  unfold SprPost at HS HU
  obtain ⟨len, hlen⟩ : ∃ len, xs.length = len := ⟨_, rfl⟩
  rw [hlen] at HF HP HR HS HU ⊢
  clear hlen
  generalize runsV xs lo hi = ys at *
  generalize givE xs lo hi = er at *
  generalize sprV xs groups = zs at *
  generalize sprT xs groups = tx at *
  generalize sprE xs groups = es at *
  cases hf : fewB len with
  | false =>
    rw [hf] at HF
    clear hf HP HR HS HU
    go_enter Tryz.func6, Tryz.ntmps6
    go_wp2_with (go_at_call 10; refine (HF.out _).mono ?_; rintro e w1 ⟨rfl, rfl⟩)
    go_wp2_with (go_at_call 11; refine (HAw.out _ H0.out.below).mono ?_; rintro e w2 ⟨rfl, hw2⟩)
    go_ret
    exact ⟨rfl, below_below H0.out.below H0.out.below.size hw2⟩
  | true =>
    rw [hf] at HF
    clear hf
    go_enter Tryz.func6, Tryz.ntmps6
    go_wp2_with (go_at_call 10; fail)
    refine (HF.out _).mono ?_
    rintro e w1 ⟨rfl, rfl⟩
    have l1 := H0.out.lo
    have k1 := H0.out.hi
    go_wp2_with (go_at_call 27; fail)
    refine (HP.out _ H0.out.ints).mono ?_
    rintro e w2 ⟨A2, c2, rfl, hI2, hw2⟩
    have H2 := Lib.hid (H0.out.next hw2)
    have HI2 := Lib.hid hI2
    clear hw2 hI2 l1 k1
    have l2 := H2.out.lo
    have k2 := H2.out.hi
    go_wp2_with (go_at_call 28; fail)
    refine (HR.out _ H2.out.ints).mono ?_
    rintro e w3 ⟨A3, c3, rfl, hI3, hw3⟩
    have H3 := Lib.hid (H2.out.next hw3)
    have HI3 := Lib.hid (And.intro (ints_below HI2.out hw3) hI3)
    clear hw3 hI3 HI2 l2 k2 H2
    go_wp2_with (go_at_call 29; fail)
    refine (HS.out _ H3.out.ints (H3.out.tab HT.out)).mono ?_
    rintro e w4 ⟨A4, c4, rfl, hI4, hw4⟩
    have H4 := Lib.hid (H3.out.next hw4)
    have HI4 := Lib.hid (And.intro (ints_below HI3.out.1 hw4) (And.intro (ints_below HI3.out.2 hw4) hI4))
    clear hw4 hI4 HI3 H3
    go_wp2_with (go_at_call 30; fail)
    refine (HU.out _ H4.out.ints).mono ?_
    rintro e w5 ⟨A5, c5, rfl, hI5, hw5⟩
    have H5 := Lib.hid (H4.out.next hw5)
    have HI5 := Lib.hid (And.intro (ints_below HI4.out.1 hw5) (And.intro (ints_below HI4.out.2.1 hw5) (And.intro (ints_below HI4.out.2.2 hw5) hI5)))
    clear hw5 hI5 HI4 H4
    go_wp2_with (go_at_call 11; fail)
    refine (HAw.out _ H5.out.below).mono ?_
    rintro e w6 ⟨rfl, hw6⟩
    have H6 := Lib.hid (H5.out.next hw6)
    have HI6 := Lib.hid (And.intro (ints_below HI5.out.1 hw6) (And.intro (ints_below HI5.out.2.1 hw6) (And.intro (ints_below HI5.out.2.2.1 hw6) (ints_below HI5.out.2.2.2 hw6))))
    clear hw6 HI5 H5
    go_wp2_with (go_at_call 26; fail)
    refine (same_calls _ _ _ _ _ ys _ rfl HI6.out.1 HI6.out.2.1).mono ?_
    rintro e w7 ⟨rfl, hw7⟩
    have H7 := Lib.hid (H6.out.next hw7)
    have HI7 := Lib.hid (And.intro (ints_below HI6.out.2.2.1 hw7) (ints_below HI6.out.2.2.2 hw7))
    clear hw7 HI6 H6
    go_wp2_with (go_at_call 26; fail)
    refine (same_calls _ _ _ _ _ zs _ rfl HI7.out.1 HI7.out.2).mono ?_
    rintro e w8 ⟨rfl, hw8⟩
    have HB := Lib.hid (below_below H7.out.below H7.out.below.size hw8)
    clear hw8
    go_wp2
    go_ret
    exact ⟨rfl, HB.out⟩
end Go.Proofs.YtdkfebfedfemaaaGreatDoor
