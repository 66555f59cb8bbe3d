/- The reference's Runs. -/
import Derived.Test.YtdkfebfedfemaaaGreatDoorH4
import Derived.StillTailTactics
import Derived.Deep.RegionWith
set_option linter.unusedVariables false
set_option linter.unusedSimpArgs false
namespace Go.Proofs.YtdkfebfedfemaaaGreatDoor
open Go.RowKit Go.Mlab

set_option maxRecDepth 100000 in
set_option maxHeartbeats 4000000 in
theorem ref_runs_ok (A : Option Addr) (c : Nat) (xs : List Int) (lo hi : Int) (w : World) (hx : IntsAt w A c xs) (h2 : givE xs lo hi = 0) :
    Calls Tryz.prog 28 #[.slice A xs.length c, .agg #[.int .i64 lo, .int .i64 hi]] w (SlPost (runsL lo hi xs) 0 w) := by
  obtain ⟨i0, hi0, hz0, hz1, hz2⟩ := int_info
  have H0 := Lib.hid (LimW.new hx lo hi)
  have HG := Lib.hid (given_calls A c xs lo hi _ H0.out.ints)
  have hg := givE_ser h2
  have hok := serE_ok hg.1
  have hl := hok.2.1
  rw [h2] at HG
  have HV := Lib.hid hok.2.2
  have HSd := Lib.hid (fun v (hv : -1048576 ≤ v ∧ v ≤ 1048576) W => side_calls v lo hi W (by omega) (by omega) (by omega))
  have hrb := fun i => runFold_bd lo hi (xs.take i)
  have HRB := Lib.hid (show ∀ i, i ≤ 4096 → (runsL lo hi (xs.take i)).length ≤ 4096 by
    intro i hi'
    have h1 := runFold_bd lo hi (xs.take i)
    have h3 : (xs.take i).length ≤ 4096 := by rw [List.length_take]; omega
    unfold runsL
    split
    · omega
    · rename_i h; have := h1.2.2 h; rw [List.length_append, List.length_singleton]; omega)
  clear hx h2 hg hok hrb
  obtain ⟨n, hn⟩ : ∃ n, xs.length = n := ⟨_, rfl⟩
  rw [hn] at HG hl ⊢
  have Hn := Lib.hid hn
  clear hn
  go_enter Tryz.func28, Tryz.ntmps28
  have l1 := H0.out.lo
  have k1 := H0.out.hi
  go_wp2_with (go_at_call 32; fail)
  refine (HG.out).mono ?_
  rintro e w2 ⟨rfl, hw2⟩
  have H2 := Lib.hid (H0.out.next hw2)
  clear hw2 HG l1 k1
  go_wp2
  go_loopg [7, 8, 9] n (fun k v7 v8 v9 wr => ∃ i : Nat, v8 = .int .i64 i ∧ k + i = n ∧ Hid (OwnZ wr w2.heap.size v7 (runsL lo hi (xs.take i)) ∧ LimW w A c xs lo hi wr ∧ Below w2.heap.size w2 wr))
  case atStart => exact ⟨0, rfl, by omega, ⟨by rw [List.take_zero]; exact ownZ_nil _ _, H2.out, Below.refl _ _⟩⟩
  case round =>
    obtain ⟨i, rfl, hi', hr⟩ := hrel
    cases gk with
    | zero =>
      obtain rfl : i = n := by omega
      have h1 := hr.out.1
      rw [List.take_of_length_le (by rw [Hn.out]; exact Nat.le_refl _)] at h1
      have hb := HRB.out i (by omega)
      rw [List.take_of_length_le (by rw [Hn.out]; exact Nat.le_refl _)] at hb
      obtain ⟨A', c', e, hI⟩ := ownZ_ints h1 (by omega)
      have HF := Lib.hid (And.intro hI hr.out.2.1.below)
      subst e
      clear hi' hr h1 hI hi0 hz0 hz1 hz2 hb
      go_wp2
      go_returns
      exact ⟨A', c', rfl, HF.out.1, HF.out.2⟩
    | succ m =>
      have hin : i < n := by omega
      have hin2 : (i : Int) < n := by omega
      have hlen : i < xs.length := by rw [Hn.out]; exact hin
      obtain ⟨b, o, rfl, hcell⟩ := ints_get hr.out.2.1.ints hlen
      have hsn : xs.take (i + 1) = xs.take i ++ [xs.getD i 0] := by rw [List.getD_eq_getElem?_getD]; exact take_snoc' hlen
      have hvb := HV.out _ (getD_mem hlen)
      have HSv := Lib.hid (HSd.out _ hvb)
      have l3 := hr.out.2.1.lo
      have k3 := hr.out.2.1.hi
      have hbl := HRB.out i (by omega)
      have hin4 : (i : Int) ≤ 4096 := by omega
      have hs0 := runs_zero lo hi (xs.take i) (xs.getD i 0)
      have hs1 := runs_new lo hi (xs.take i) (xs.getD i 0)
      have HM := Lib.hid (fun i' u (h : xs.take i = xs.take i' ++ [u]) => runs_more lo hi (xs.take i') u (xs.getD i 0))
      rw [← hsn] at hs0 hs1
      have hsc := sgn_cases lo hi (xs.getD i 0)
      have HSN := Lib.hid hsn
      have H0s := Lib.hid hs0
      have H1s := Lib.hid hs1
      clear hsn hs0 hs1
      generalize hvv : xs.getD i 0 = v at *
      generalize hss : sgn lo hi v = s at *
      clear hvv
      go_wp2
      go_still_tail 5, (by kernel_rfl)
      change wpList _ _ _ _ _ wr.drew
      go_wp2_with (go_at_call 64; fail)
      refine (HSv.out _).mono ?_
      rintro e w3 ⟨rfl, hw3⟩
      have hb3 : Below wr.heap.size wr w3 := below_below (pw_below_drewN (Below.refl _ wr) 1) (Nat.le_refl _) hw3
      have HOwn := Lib.hid (ownZ_below hr.out.1 hb3)
      have HL := Lib.hid (hr.out.2.1.next hb3)
      have HB := Lib.hid (below_below hr.out.2.2 hr.out.2.2.size hb3)
      have hsz := HB.out.size
      clear hw3 hb3 hcell l3 k3 hr HSv
      have l4 := HL.out.lo
      have k4 := HL.out.hi
      by_cases h0 : s = 0
      · have HN := Lib.hid (H0s.out h0)
        subst h0
        go_wp2
        go_roundg m
        case measure => omega
        case rel => exact ⟨i + 1, by go_num, by omega, ⟨by rw [HN.out]; exact HOwn.out, HL.out, HB.out⟩⟩
      · have hb0 : (s == 0) = false := by rw [beq_eq_false_iff_ne]; exact h0
        have hsb : -1 ≤ s ∧ s ≤ 1 := by omega
        cases i with
        | zero =>
          have HN := Lib.hid (H1s.out h0 (fun ys u e => by simp at e))
          have hown := HOwn.out
          unfold OwnZ at hown
          have hg0 : decide ((0 : Int) < 0) = false := by decide
          go_wp2
          go_quiet (fail)
          have hown2 : (w3.drewN nq).ownsRow w2.heap.size 3 1 u7 (runsL lo hi (xs.take 0)).length ((runsL lo hi (xs.take 0)).map (Value.int .i64)) := hown
          have HB2 := Lib.hid (pw_below_drewN HB.out nq)
          have HL2 := Lib.hid (HL.out.next (pw_below_drewN (Below.refl _ w3) nq))
          have hsz2 : w2.heap.size ≤ (w3.drewN nq).heap.size := hsz
          clear l4 k4 hown
          generalize w3.drewN nq = wd at *
          go_wp2_with (at_builtin; refine wpList_append_own _ rfl _ _ 22 rfl w2.heap.size 3 i0 (.int .i64 0) 1 8 Tryz.underlying22 hi0 hz0 hz1 hz2 rfl (by decide) _ _ _ rfl (hown2.alloc _) ⟨wd.heap.size, 0, none⟩ 1 1 [.int .i64 s] rfl rfl (cell_one_new _ _ _) (fun x hx => by simp at hx; subst hx; rfl) (by unfold maxLen; omega) (by omega) (by simp; omega) ?_; intro v' w5 hown' hgrow hnil)
          have hB5 := (HB2.out.alloc hsz2 _).grown hgrow (by simp; omega) (fun j ej => ownZ_ge HOwn.out j ej)
          have HF := Lib.hid (show OwnZ w5 w2.heap.size v' (runsL lo hi (xs.take (0 + 1))) by rw [HN.out]; exact ownZ_app rfl hown')
          have HL5 := Lib.hid (show LimW w (some ⟨b, o, none⟩) c xs lo hi w5 from H2.out.next hB5)
          clear hown' hgrow hnil
          go_roundg m
          case measure => omega
          case rel => exact ⟨0 + 1, by go_num, by omega, ⟨HF.out, HL5.out, hB5⟩⟩
        | succ i' =>
          obtain ⟨b', o', e', hcell⟩ := ints_get HL.out.ints (i := i') (by omega)
          cases e'
          have hub := HV.out _ (getD_mem (show i' < xs.length by omega))
          have hsu : xs.take (i' + 1) = xs.take i' ++ [xs.getD i' 0] := by rw [List.getD_eq_getElem?_getD]; exact take_snoc' (by omega)
          have HSu := Lib.hid (HSd.out _ hub)
          have HSU := Lib.hid hsu
          clear hsu
          generalize xs.getD i' 0 = u at *
          have hi1 : (0 : Int) ≤ i' := by omega
          have hi2 : (i' : Int) ≤ 4096 := by omega
          have hi3 : (i' : Int) < n := by omega
          have hi4 : IntKind.i64.wrap (i' : Int) = i' := Go.IntWalk.i64_in _ ⟨by omega, by omega⟩
          have hg1 : decide ((0 : Int) < (i' : Int) + 1) = true := by rw [decide_eq_true_iff]; omega
          go_wp2
          go_region_with (go_at_call 64; refine (HSu.out _).mono ?_; rintro e w4 ⟨rfl, hw4⟩)
          all_goals
            have hb4 : Below w3.heap.size w3 w4 := below_below (pw_below_drewN (Below.refl _ w3) 1) (Nat.le_refl _) hw4
            have HOwn4 := Lib.hid (ownZ_below HOwn.out hb4)
            have HB4 := Lib.hid (below_below HB.out HB.out.size hb4)
            have hsz4 := HB4.out.size
            clear hw4 hb4 hcell l4 k4 HOwn HB HL HSu
            by_cases hsu : sgn lo hi u = s
            · obtain ⟨L, r, e1, e2, e3, e4⟩ := HM.out i' u HSU.out h0 hsu
              have hl5 : (xs.take i' ++ [u]).length ≤ 4096 := by rw [List.length_append, List.length_take]; simp; omega
              have HN := Lib.hid (show runsL lo hi (xs.take (i' + 1 + 1)) = L ++ [r + s] by rw [HSN.out, HSU.out]; exact e2)
              have hO := HOwn4.out
              rw [HSU.out, e1] at hO
              obtain ⟨g, cap, e, hg, hgl, hcap⟩ := ownZ_some hO (by simp)
              rw [List.length_append, List.length_singleton] at e hcap
              subst e
              obtain ⟨c1, f1⟩ := ownZ_cell hO (j := L.length) (by simp)
              have ev : (L ++ [r]).getD L.length 0 = r := by rw [List.getD_eq_getElem?_getD, List.getElem?_append_right (Nat.le_refl _), Nat.sub_self]; rfl
              rw [ev] at c1
              have HO5 := Lib.hid (show OwnZ (w4.setCell ⟨g, L.length, none⟩ (.int .i64 (r + s))) w2.heap.size (.slice (some ⟨g, 0, none⟩) (L.length + 1) cap) (runsL lo hi (xs.take (i' + 1 + 1))) by
                have h := ownZ_set hO (j := L.length) (by simp) (r + s)
                rw [List.set_append_right _ _ (Nat.le_refl _), Nat.sub_self] at h
                rw [HN.out]; exact h)
              have HB5 := Lib.hid (HB4.out.setCell (p := ⟨g, L.length, none⟩) hg (.int .i64 (r + s)))
              have hLl : (L.length : Int) ≤ 4096 := by omega
              have hr0 : -4096 ≤ r ∧ r ≤ 4096 := by omega
              rw [hsu]
              clear hO e1 e2 e3 e4 hl5 ev HOwn4
              generalize L.length = ll at *
              go_wp2
              go_roundg m
              case measure => omega
              case rel => exact ⟨i' + 1 + 1, by go_num, by omega, ⟨HO5.out, H2.out.next HB5.out, HB5.out⟩⟩
            · have hbu : (sgn lo hi u == s) = false := by rw [beq_eq_false_iff_ne]; exact hsu
              have HN := Lib.hid (H1s.out h0 (fun ys u' e => by
                rw [HSU.out] at e
                have := (List.append_inj' e rfl).2
                simp at this
                rw [← this]; exact hsu))
              have hown := HOwn4.out
              unfold OwnZ at hown
              generalize hsuu : sgn lo hi u = su at *
              go_wp2_with (at_builtin; refine wpList_append_own _ rfl _ _ 22 rfl w2.heap.size 3 i0 (.int .i64 0) 1 8 Tryz.underlying22 hi0 hz0 hz1 hz2 rfl (by decide) _ _ _ rfl (hown.alloc _) ⟨w4.heap.size, 0, none⟩ 1 1 [.int .i64 s] rfl rfl (cell_one_new _ _ _) (fun x hx => by simp at hx; subst hx; rfl) (by unfold maxLen; omega) (by omega) (by simp; omega) ?_; intro v' w5 hown' hgrow hnil)
              have hB5 := (HB4.out.alloc hsz4 _).grown hgrow (by simp; omega) (fun j ej => ownZ_ge HOwn4.out j ej)
              have HF := Lib.hid (show OwnZ w5 w2.heap.size v' (runsL lo hi (xs.take (i' + 1 + 1))) by rw [HN.out]; exact ownZ_app rfl hown')
              have HL5 := Lib.hid (show LimW w (some ⟨b, o, none⟩) c xs lo hi w5 from H2.out.next hB5)
              clear hown' hgrow hnil
              go_roundg m
              case measure => omega
              case rel => exact ⟨i' + 1 + 1, by go_num, by omega, ⟨HF.out, HL5.out, hB5⟩⟩
set_option maxHeartbeats 1000000 in
theorem ref_runs_calls (A : Option Addr) (c : Nat) (xs : List Int) (lo hi : Int) (w : World) (hx : IntsAt w A c xs) :
    Calls Tryz.prog 28 #[.slice A xs.length c, .agg #[.int .i64 lo, .int .i64 hi]] w (SlPost (runsV xs lo hi) (givE xs lo hi) w) := by
  unfold runsV
  by_cases h : givE xs lo hi = 0
  · rw [if_pos h, h]
    exact ref_runs_ok A c xs lo hi w hx h
  · rw [if_neg h]
    have H0 := Lib.hid (LimW.new hx lo hi)
    have HG := Lib.hid (given_calls A c xs lo hi _ H0.out.ints)
    have hb : (givE xs lo hi != 0) = true := by simpa using h
    have l1 := H0.out.lo
    have k1 := H0.out.hi
    clear h hx
    generalize givE xs lo hi = er at *
    generalize xs.length = n at *
    go_enter Tryz.func28, Tryz.ntmps28
    go_wp2_with (go_at_call 32; fail)
    refine (HG.out).mono ?_
    rintro e w2 ⟨rfl, hw2⟩
    have hB2 := below_below H0.out.below H0.out.below.size hw2
    go_wp2
    go_returns
    exact ⟨none, 0, rfl, ⟨Nat.le_refl _, by simp, .inl rfl⟩, hB2⟩
end Go.Proofs.YtdkfebfedfemaaaGreatDoor
