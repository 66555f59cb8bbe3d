/- capability: varied, index, Capability. -/
import Derived.Test.YtdkfebfedfemaaaGreatDoorK3
set_option linter.unusedVariables false
set_option linter.unusedSimpArgs false
namespace Go.Proofs.YtdkfebfedfemaaaGreatDoor
open Go.RowKit Go.Mlab

/-- The number of the error of a series with limits of which the variance should not be 0. -/
def vryE (xs : List Int) (lo hi : Int) : Int := if givE xs lo hi ≠ 0 then givE xs lo hi else if xs.length = 1 then 14 else if vari xs = 0 then 10 else 0
theorem givE_ser {xs : List Int} {lo hi : Int} (h : givE xs lo hi = 0) : serE xs = 0 ∧ -1048576 ≤ lo ∧ lo ≤ hi ∧ hi ≤ 1048576 := by
  unfold givE at h
  split at h
  · rename_i h1; exact absurd h h1
  · rename_i h1
    split at h
    · cases h
    · rename_i h2
      split at h
      · cases h
      · rename_i h3
        have a : inB lo = true := by cases e : inB lo with | true => rfl | false => exact absurd (.inl e) h2
        have b : inB hi = true := by cases e : inB hi with | true => rfl | false => exact absurd (.inr e) h2
        have a := inB_iff.1 a
        have b := inB_iff.1 b
        have c : serE xs = 0 := Classical.byContradiction h1
        omega
theorem Q_zero : Q 0 = { data := #[48] } := by unfold Q; rw [qtext_one (by rfl)]; show S (Lib.itoa 0) = _; rw [itoa_zero]; rfl
set_option maxHeartbeats 1000000 in
theorem varied_calls (A : Option Addr) (c : Nat) (xs : List Int) (lo hi : Int) (w : World) (hx : IntsAt w A c xs) (hT : Tab w) :
    Calls Tryz.prog 51 #[.slice A xs.length c, .agg #[.int .i64 lo, .int .i64 hi]] w fun e w' => e = .returned (resV (vryE xs lo hi) (vari xs)) ∧ Below w.heap.size w w' := by
  have hA : Below w.heap.size w (w.alloc (.cells #[.int .i64 lo, .int .i64 hi] 34)) := (Below.refl _ w).alloc (Nat.le_refl _) _
  have HB := Lib.hid (fun w1 (h : Below w.heap.size w w1) => both_calls A c xs lo hi w1 (ints_below hx h))
  have HV := Lib.hid (fun w1 (h : Below w.heap.size w w1) => cap_Var_calls A c xs w1 (ints_below hx h) (tab_below hT h))
  have hAH := Lib.hid hA
  obtain ⟨ev, hev⟩ : ∃ ev, vryE xs lo hi = ev := ⟨_, rfl⟩
  rw [hev]
  unfold vryE at hev
  have hve : varE xs = if serE xs ≠ 0 then serE xs else if xs.length = 1 then 14 else 0 := rfl
  have hg0 := @givE_ser xs lo hi
  clear hx hT hA
  unfold resV at *
  generalize givE xs lo hi = g at *
  generalize varE xs = ve at *
  by_cases h0 : g = 0
  · subst h0
    rw [if_neg (by decide)] at hev
    have hs := (hg0 rfl).1
    rw [hs, if_neg (by decide)] at hve
    by_cases h1 : xs.length = 1
    · rw [if_pos h1] at hev hve
      subst hev hve
      rw [if_neg (by decide)] at HV ⊢
      clear hg0 hs h1
      generalize xs.length = n at *
      go_enter Tryz.func51, Tryz.ntmps51
      go_wp2_with (go_at_call 61; refine (HB.out _ hAH.out).mono ?_; rintro e w1 ⟨rfl, hw1⟩)
      have hB1 := below_below hAH.out hAH.out.size hw1
      go_wp2_with (go_at_call 14; refine (HV.out _ hB1).mono ?_; rintro e w2 ⟨rfl, hw2⟩)
      go_ret2
      exact ⟨rfl, below_below hB1 hB1.size hw2⟩
    · rw [if_neg h1] at hev hve
      subst hve
      rw [if_pos rfl] at HV
      clear hg0 hs h1
      generalize xs.length = n at *
      by_cases h2 : vari xs = 0
      · rw [if_pos h2] at hev
        subst hev
        rw [h2, Q_zero] at HV
        rw [if_neg (by decide)]
        clear h2
        go_enter Tryz.func51, Tryz.ntmps51
        go_wp2_with (go_at_call 61; refine (HB.out _ hAH.out).mono ?_; rintro e w1 ⟨rfl, hw1⟩)
        have hB1 := below_below hAH.out hAH.out.size hw1
        go_wp2_with (go_at_call 14; refine (HV.out _ hB1).mono ?_; rintro e w2 ⟨rfl, hw2⟩)
        go_ret2
        exact ⟨rfl, below_below hB1 hB1.size hw2⟩
      · rw [if_neg h2] at hev
        subst hev
        have hz := Q_is0 h2
        rw [if_pos rfl]
        clear h2
        generalize Q (vari xs) = out at *
        go_enter Tryz.func51, Tryz.ntmps51
        go_wp2_with (go_at_call 61; refine (HB.out _ hAH.out).mono ?_; rintro e w1 ⟨rfl, hw1⟩)
        have hB1 := below_below hAH.out hAH.out.size hw1
        go_wp2_with (go_at_call 14; refine (HV.out _ hB1).mono ?_; rintro e w2 ⟨rfl, hw2⟩)
        go_ret2
        exact ⟨rfl, below_below hB1 hB1.size hw2⟩
  · rw [if_pos h0] at hev
    subst hev
    have hb : (g != 0) = true := by simpa using h0
    rw [if_neg h0]
    clear HV hg0 hve h0
    generalize xs.length = n at *
    go_enter Tryz.func51, Tryz.ntmps51
    go_wp2_with (go_at_call 61; refine (HB.out _ hAH.out).mono ?_; rintro e w1 ⟨rfl, hw1⟩)
    have hB1 := below_below hAH.out hAH.out.size hw1
    go_ret2
    exact ⟨rfl, hB1⟩
end Go.Proofs.YtdkfebfedfemaaaGreatDoor
