/- capability: Median. -/
import Derived.Test.YtdkfebfedfemaaaGreatDoorK7
set_option linter.unusedVariables false
set_option linter.unusedSimpArgs false
namespace Go.Proofs.YtdkfebfedfemaaaGreatDoor
open Go.RowKit Go.Mlab

def med (xs : List Int) : Rat := Rat.divInt ((sortZ xs).getD ((xs.length - 1) / 2) 0 + (sortZ xs).getD (xs.length / 2) 0) 2
theorem sortZ_mem {xs : List Int} {x : Int} : x ∈ sortZ xs ↔ x ∈ xs := by unfold sortZ; exact List.mem_mergeSort
theorem sortZ_get {xs : List Int} {P : Int → Prop} (h : ∀ x ∈ xs, P x) {i : Nat} (hi : i < xs.length) : P ((sortZ xs).getD i 0) :=
  h _ (sortZ_mem.1 (getD_mem (by rw [sortZ_len]; exact hi)))
theorem ints_lt {w : World} {b o : Nat} {c : Nat} {xs : List Int} (h : IntsAt w (some ⟨b, o, none⟩) c xs) (h0 : xs ≠ []) : b < w.heap.size := by
  rcases h.at_ with h | ⟨b', o', e, hb, _⟩
  · exact absurd h h0
  · cases e; exact hb
theorem enters68 : ∀ args w, (callFunc 68 args).run Tryz.prog w = .ok (.enter 68 args) w := enters_of Tryz.func68 (by kernel_rfl) rfl
set_option maxRecDepth 100000 in
set_option maxHeartbeats 2000000 in
theorem median_calls (A : Option Addr) (c : Nat) (xs : List Int) (w : World) (hx : IntsAt w A c xs) (hT : Tab w) :
    Calls Tryz.prog 16 #[.slice A xs.length c] w fun e w' => e = .returned (resV (serE xs) (med xs)) ∧ Below w.heap.size w w' := by
  have HC := Lib.hid (cap_check_calls A c xs w hx)
  by_cases h0 : serE xs = 0
  · have hok := serE_ok h0
    unfold resV
    rw [if_pos h0]
    have hV := values_calls A xs.length c w
    have HS := Lib.hid (sorted_calls 68 #[.pointer (some ⟨w.heap.size, 0, none⟩)] enters68 xs xs.length w.heap.size (w.alloc (.cells #[.slice A xs.length c] 22)) (w.alloc (.cells #[.slice A xs.length c] 22))
      (values_seq A c xs w _ hx w.heap.size (by simp) ((Below.refl _ w).alloc (Nat.le_refl _) _) (by rw [cell_of_row _ _ _ _ _ _ (alloc_new w _)]; rfl)) (Below.refl _ _) (by simp) (by omega) hok.1 (by omega))
    have hl1 : 1 ≤ xs.length := by have := hok.1; have : xs.length ≠ 0 := fun h => this (List.length_eq_zero_iff.1 h); omega
    have b1 := sortZ_get hok.2.2 (i := (xs.length - 1) / 2) (by omega)
    have b2 := sortZ_get hok.2.2 (i := xs.length / 2) (by omega)
    have HO := Lib.hid (fun w1 h => rat_of_calls ((sortZ xs).getD ((xs.length - 1) / 2) 0 + (sortZ xs).getD (xs.length / 2) 0) 2 w1 (by omega) (by omega) (by omega) h)
    have HT := Lib.hid hT
    have hA : Below w.heap.size w (w.alloc (.cells #[.slice A xs.length c] 22)) := (Below.refl _ w).alloc (Nat.le_refl _) _
    have HA := Lib.hid hA
    have HV := Lib.hid hV
    have hlen := sortZ_len xs
    rw [h0] at HC ⊢
    unfold med
    have hl4 := hok.2.1
    clear hx hT h0 hok hA hV
    generalize sortZ xs = ys at *
    obtain ⟨n, hn⟩ : ∃ n, xs.length = n := ⟨_, rfl⟩
    rw [hn] at HC HV HS HO HA hlen hl1 hl4 b1 b2 ⊢
    clear hn
    have HL := Lib.hid hlen
    clear hlen
    generalize Q (Rat.divInt (ys.getD ((n - 1) / 2) 0 + ys.getD (n / 2) 0) 2) = out at *
    go_enter Tryz.func16, Tryz.ntmps16
    go_wp2_with (go_at_call 18; refine (HC.out).mono ?_; rintro e w1 ⟨rfl, rfl⟩)
    go_wp2_with (go_at_call 34; refine (HV.out).mono ?_; rintro e w2 ⟨rfl, rfl⟩)
    go_wp2_with (go_at_call 33; fail)
    refine (HS.out).mono ?_
    rintro e w3 ⟨b, cp, rfl, hb, hI, hB⟩
    have hB2 := HA.out.trans hB
    obtain ⟨j1, hj1⟩ : ∃ j1, (n - 1) / 2 = j1 := ⟨_, rfl⟩
    obtain ⟨j2, hj2⟩ : ∃ j2, n / 2 = j2 := ⟨_, rfl⟩
    rw [hj1] at b1 HO
    rw [hj2] at b2 HO
    have g1 := ints_get hI (i := j1) (by rw [HL.out]; omega)
    have g2 := ints_get hI (i := j2) (by rw [HL.out]; omega)
    rw [HL.out]
    obtain ⟨b', o', e1, g1⟩ := g1
    obtain ⟨b'', o'', e2, g2⟩ := g2
    simp only [Option.some.injEq, Addr.mk.injEq, and_true] at e1 e2
    obtain ⟨rfl, rfl⟩ := e1
    obtain ⟨rfl, rfl⟩ := e2
    rw [Nat.zero_add] at g1 g2
    have k1 : ((n : Int) - 1) / 2 = (j1 : Int) := by omega
    have k2 : (n : Int) / 2 = (j2 : Int) := by omega
    have l1 : (j1 : Int) < n := by omega
    have l2 : (j2 : Int) < n := by omega
    have m1 : j1 < n := by omega
    have m2 : j2 < n := by omega
    generalize ys.getD j1 0 = y1 at *
    generalize ys.getD j2 0 = y2 at *
    have hI2 := Lib.hid (ints_lt hI (by intro h; rw [h] at HL; have := HL.out; simp at this; omega))
    clear hj1 hj2 hI hB
    go_wp2
    have HB := Lib.hid hB2
    clear hB2
    have hbl := hI2.out
    have HG := Lib.hid (fun w4 (h : Below w3.drew.heap.size w3.drew w4) => show w4.cell? ⟨b, j1, none⟩ = some (.int .i64 y1) ∧ w4.cell? ⟨b, j2, none⟩ = some (.int .i64 y2) from ⟨(h.cell (p := ⟨b, j1, none⟩) hbl).trans g1, (h.cell (p := ⟨b, j2, none⟩) hbl).trans g2⟩)
    obtain ⟨N, hN⟩ : ∃ N : Int, (n : Int) = N := ⟨_, rfl⟩
    rw [hN] at k1 k2 ⊢
    have q0 : 1 ≤ N := by omega
    have q1 : N ≤ 4096 := by omega
    have v1 : IntKind.i64.wrap (N - 1) = N - 1 := Go.IntWalk.i64_in _ ⟨by omega, by omega⟩
    have v2 : IntKind.i64.wrap ((N - 1).tdiv 2) = (j1 : Int) := by
      rw [Int.tdiv_eq_ediv_of_nonneg (by omega), k1]; exact Go.IntWalk.i64_in _ ⟨by omega, by omega⟩
    have v3 : IntKind.i64.wrap (N.tdiv 2) = (j2 : Int) := by
      rw [Int.tdiv_eq_ediv_of_nonneg (by omega), k2]; exact Go.IntWalk.i64_in _ ⟨by omega, by omega⟩
    clear hN
    have v4 : IntKind.i64.wrap (y1 + y2) = y1 + y2 := Go.IntWalk.i64_in _ ⟨by omega, by omega⟩
    have p1 : (0 : Int) ≤ j1 := by omega
    have p2 : (0 : Int) ≤ j2 := by omega
    clear k1
    go_region_held3 (fun W : World => W.cell? ⟨b, j1, none⟩ = some (.int .i64 y1) ∧ W.cell? ⟨b, j2, none⟩ = some (.int .i64 y2)) (first | exact ⟨g1, g2⟩ | exact HK.out) (first | (go_at_call 45; refine (HO.out _ (tab_below' HT.out (pw_below_drewN HB.out 1) (Nat.le_refl _))).mono ?_; rintro e w4 ⟨rfl, hw4⟩; have HK := Lib.hid (HG.out w4 hw4)))
    go_wp2
    go_ret2
    exact ⟨rfl, below_below (pw_below_drewN HB.out 1) (pw_below_drewN HB.out 1).size hw4⟩
  · have hb : (serE xs != 0) = true := by simpa using h0
    unfold resV
    rw [if_neg h0]
    clear hx
    generalize serE xs = e0 at *
    generalize xs.length = n at *
    go_enter Tryz.func16, Tryz.ntmps16
    go_wp2_with (go_at_call 18; refine (HC.out).mono ?_; rintro e w1 ⟨rfl, rfl⟩)
    go_ret2
    exact ⟨rfl, Below.refl _ _⟩
end Go.Proofs.YtdkfebfedfemaaaGreatDoor
