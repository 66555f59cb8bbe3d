/- estimate: how often a magnitude may be subtracted. -/
import Derived.Test.YtdkfebfedfemaaaGreatDoorW5
set_option linter.unusedVariables false
set_option linter.unusedSimpArgs false
namespace Go.Proofs.YtdkfebfedfemaaaGreatDoor
open Go.RowKit Go.Mlab

set_option maxHeartbeats 400000 in
theorem top_calls (b : Nat) (x : Wide) (i : Nat) (w : World) (hx : WideAt w b x) (lx : WideOk x) (hi : i ≤ 1000) :
    Calls Tryz.prog 207 #[.pointer (some ⟨b, 0, none⟩), .int .i64 i] w fun e w' => e = .returned (.int .i64 (x.ws.getD i 0)) ∧ w' = w := by
  have x1 := wideAt_n hx
  have nx := lx.le
  have hn : ¬ ((i : Int) < 0) := by omega
  by_cases h : x.n ≤ i
  · have e := lx.zero i h
    rw [e]
    generalize x.n = n at x1 h nx
    clear e hx lx
    go_enter Tryz.func207, Tryz.ntmps207
    go_wp2
    go_ret
    exact ⟨rfl, rfl⟩
  · have x2 := wideAt_w hx i (by rw [lx.len]; omega)
    generalize x.ws.getD i 0 = v at x2
    generalize x.n = n at x1 h nx
    clear hx lx
    go_enter Tryz.func207, Tryz.ntmps207
    go_wp2
    go_ret
    exact ⟨rfl, rfl⟩

theorem wide_low {x : Wide} (lx : WideOk x) {m : Nat} (h : x.n ≤ m + 2) (hm : m + 1 < 232) : ∃ l, 0 ≤ l ∧ l < BB m ∧ x.m = l + (x.ws.getD (m + 1) 0 * 1000000000 + x.ws.getD m 0) * BB m := by
  have e := mag_take_of_zero x.ws (m + 2) (fun i hi => lx.zero i (by omega))
  rw [mag_take_succ x.ws (m + 1) (by rw [lx.len]; exact hm), mag_take_succ x.ws m (by rw [lx.len]; omega), BB_succ] at e
  have a0 := mag_nonneg (ws := x.ws.take m) (fun a ha => lx.ok a (List.mem_of_mem_take ha))
  have a1 := mag_lt (ws := x.ws.take m) (fun a ha => lx.ok a (List.mem_of_mem_take ha))
  rw [List.length_take, lx.len, Nat.min_eq_left (by omega)] at a1
  refine ⟨_, a0, a1, ?_⟩
  unfold Wide.m
  rw [← e]; grind
theorem est_le {a b B xm ym k : Int} (hb : 1 ≤ b) (ha : 0 ≤ a) (hB : 0 ≤ B) (hx : a * B ≤ xm) (hy : ym ≤ b * B) (hy0 : 0 ≤ ym) (hk : 0 ≤ k) (h : k ≤ a / b) : k * ym ≤ xm := by
  have h1 : k * ym ≤ k * (b * B) := Int.mul_le_mul_of_nonneg_left hy hk
  have h2 : k * b ≤ a := by
    have h3 : k * b ≤ a / b * b := Int.mul_le_mul_of_nonneg_right h (by omega)
    have h4 := Int.ediv_mul_le a (show b ≠ 0 by omega)
    omega
  have h5 : k * b * B ≤ a * B := Int.mul_le_mul_of_nonneg_right h2 hB
  rw [Int.mul_assoc] at h5
  omega

/-- What estimate returns. -/
def EstPost (x y : Wide) (w : World) (e : Ending) (w' : World) : Prop := ∃ k : Int, e = .returned (.int .i64 k) ∧ 1 ≤ k ∧ k ≤ 999999999 ∧ k * y.m ≤ x.m ∧ ∃ n, w' = w.drewN n

theorem est_ok {x y : Wide} (lx : WideOk x) (ly : WideOk y) {m : Nat} (hm : y.n = m + 1) (hy2 : y.n ≤ 230) (hlt : x.n ≤ y.n + 1) {D k : Int} (hD : 1 ≤ D) (hD2 : y.ws.getD m 0 + 1 ≤ D ∨ m = 0 ∧ D = y.ws.getD m 0) (hk : 1 ≤ k)
    (h : k ≤ (x.ws.getD (m + 1) 0 * 1000000000 + x.ws.getD m 0) / D) : k * y.m ≤ x.m := by
  obtain ⟨l, l0, l1, e⟩ := wide_low lx (m := m) (by omega) (by omega)
  have ey := mag_take_succ y.ws m (by rw [ly.len]; omega)
  rw [← hm, ly.m_take] at ey
  have a0 := mag_nonneg (ws := y.ws.take m) (fun a ha => ly.ok a (List.mem_of_mem_take ha))
  have a1 := mag_lt (ws := y.ws.take m) (fun a ha => ly.ok a (List.mem_of_mem_take ha))
  rw [List.length_take, ly.len, Nat.min_eq_left (by omega)] at a1
  have wp := wordsOk_get lx.ok (m + 1)
  have wq := wordsOk_get lx.ok m
  unfold wordOk at wp wq
  refine est_le hD (by omega) (Int.le_of_lt (BB_pos m)) (by omega) ?_ ly.nonneg (by omega) h
  rcases hD2 with h1 | ⟨rfl, h1⟩
  · have h2 : (y.ws.getD m 0 + 1) * BB m ≤ D * BB m := Int.mul_le_mul_of_nonneg_right h1 (Int.le_of_lt (BB_pos m))
    rw [Int.add_mul] at h2
    omega
  · rw [BB_zero] at *
    rw [h1, Int.mul_one] at *
    omega

set_option maxHeartbeats 1000000 in
theorem estimate_calls (b c : Nat) (x y : Wide) (w : World) (hx : WideAt w b x) (hy : WideAt w c y) (lx : WideOk x) (ly : WideOk y) (h0 : y.n ≠ 0) (hy2 : y.n ≤ 230) (hle : y.m ≤ x.m) (hlt : x.n ≤ y.n + 1) :
    Calls Tryz.prog 187 #[.pointer (some ⟨b, 0, none⟩), .pointer (some ⟨c, 0, none⟩)] w (EstPost x y w) := by
  obtain ⟨m, hm⟩ : ∃ m, y.n = m + 1 := ⟨y.n - 1, by omega⟩
  have y1 := wideAt_n hy
  have ny := ly.le
  have HX := Lib.hid (And.intro hx (And.intro hy (And.intro lx (And.intro ly (And.intro hle (And.intro hy2 hlt))))))
  have t1 := Lib.hid (fun k => top_calls b x (m + 1) (w.drewN k) hx lx (by omega))
  have t2 := Lib.hid (fun k => top_calls b x m (w.drewN k) hx lx (by omega))
  have t3 := Lib.hid (fun k => top_calls c y m (w.drewN k) hy ly (by omega))
  have wp := wordsOk_get lx.ok (m + 1)
  have wq := wordsOk_get lx.ok m
  have wr := wordsOk_get ly.ok m
  have wt := ly.trim h0
  rw [hm, Nat.add_sub_cancel] at wt
  unfold wordOk at wp wq wr
  have Hm := Lib.hid hm
  rw [hm] at y1 ny
  generalize hP : x.ws.getD (m + 1) 0 = P at wp t1
  generalize hQ : x.ws.getD m 0 = Q at wq t2
  generalize hR : y.ws.getD m 0 = R at wr wt t3
  have t1' : ∀ k, Calls Tryz.prog 207 #[.pointer (some ⟨b, 0, none⟩), .int .i64 ((m : Int) + 1)] (w.drewN k) fun e w' => e = .returned (.int .i64 P) ∧ w' = w.drewN k := t1.out
  have T1 := Lib.hid t1'
  clear t1 t1'
  have HP := Lib.hid (And.intro hP (And.intro hQ hR))
  clear hx hy lx ly h0 hle hlt hm hP hQ hR hy2
  have hfin : ∀ D k : Int, 1 ≤ D → (R + 1 ≤ D ∨ m = 0 ∧ D = R) → 1 ≤ k → k ≤ 999999999 → (k ≤ (P * 1000000000 + Q) / D ∨ k = 1) → ∀ n, EstPost x y w (.returned (.int .i64 k)) (w.drewN n) := by
    intro D k h1 h2 h3 h4 h5 n
    refine ⟨k, rfl, h3, h4, ?_, n, rfl⟩
    rcases h5 with h5 | rfl
    · exact est_ok HX.out.2.2.1 HX.out.2.2.2.1 Hm.out HX.out.2.2.2.2.2.1 HX.out.2.2.2.2.2.2 h1 (by rw [HP.out.2.2]; exact h2) h3 (by rw [HP.out.1, HP.out.2.1]; exact h5)
    · rw [Int.one_mul]; exact HX.out.2.2.2.2.1
  have HF := Lib.hid hfin
  clear hfin
  have Hwt := Lib.hid wt
  clear wt
  go_enter Tryz.func187, Tryz.ntmps187
  go_wp2
  go_quiet ((go_at_call 207; first | with_reducible exact Calls.quiet_of_same (T1.out _) | with_reducible exact Calls.quiet_of_same (t2.out _) | with_reducible exact Calls.quiet_of_same (t3.out _)))
  have hR1 : 1 ≤ R := by have := Hwt.out; omega
  by_cases h1 : m = 0
  · have hg : ¬ (1 : Int) < (m : Int) + 1 := by omega
    have Hh := Lib.hid h1
    clear h1
    by_cases h2 : 0 < (P * 1000000000 + Q) / R
    · go_wp2
      all_goals
        go_ret
        exact HF.out R _ hR1 (.inr ⟨Hh.out, rfl⟩) (by omega) (by omega) (.inl (by omega)) _
    · go_wp2
      go_ret
      exact HF.out R _ hR1 (.inr ⟨Hh.out, rfl⟩) (by omega) (by omega) (.inr rfl) _
  · have hg : (1 : Int) < (m : Int) + 1 := by omega
    by_cases h2 : 0 < (P * 1000000000 + Q) / (R + 1)
    · go_wp2
      all_goals
        go_ret
        exact HF.out (R + 1) _ (by omega) (.inl (by omega)) (by omega) (by omega) (.inl (by omega)) _
    · go_wp2
      go_ret
      exact HF.out (R + 1) _ (by omega) (.inl (by omega)) (by omega) (by omega) (.inr rfl) _
end Go.Proofs.YtdkfebfedfemaaaGreatDoor
