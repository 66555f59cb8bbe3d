/- (*wide).beyond: magnitudes compared. -/
import Derived.Test.YtdkfebfedfemaaaGreatDoorW3
set_option linter.unusedVariables false
set_option linter.unusedSimpArgs false
namespace Go.Proofs.YtdkfebfedfemaaaGreatDoor
open Go.RowKit Go.Mlab

def BeyondPost (x y : Wide) (w : World) (e : Ending) (w' : World) : Prop := ∃ d : Int, e = .returned (.int .i64 d) ∧ (0 ≤ d ↔ y.m ≤ x.m) ∧ ∃ n, w' = w.drewN n

set_option maxHeartbeats 400000 in
theorem beyond_calls (b c : Nat) (x y : Wide) (w : World) (hx : WideAt w b x) (hy : WideAt w c y) (lx : WideOk x) (ly : WideOk y) :
    Calls Tryz.prog 186 #[.pointer (some ⟨b, 0, none⟩), .pointer (some ⟨c, 0, none⟩)] w (BeyondPost x y w) := by
  have x1 := wideAt_n hx
  have y1 := wideAt_n hy
  have HX := Lib.hid (And.intro hx (And.intro hy (And.intro lx ly)))
  have nx := lx.le
  have ny := ly.le
  clear hx hy lx ly
  by_cases hn : x.n = y.n
  · rw [← hn] at y1
    obtain ⟨n, hn'⟩ : ∃ n, x.n = n := ⟨_, rfl⟩
    rw [hn'] at x1 y1 nx
    have Hn := Lib.hid (And.intro hn' (hn'.symm.trans hn))
    clear hn hn' ny
    go_enter Tryz.func186, Tryz.ntmps186
    go_wp2
    go_quiet (fail)
    go_wp2
    go_loopg [5] n (fun k v5 wr => ∃ (i : Int) (nq : Nat), v5 = .int .i64 i ∧ i + 1 = k ∧ k ≤ n ∧ Hid (∀ j, k ≤ j → x.ws.getD j 0 = y.ws.getD j 0) ∧ wr = w.drewN nq)
    case atStart => exact ⟨_, _, rfl, by omega, Nat.le_refl _, Lib.hid fun j hj => by rw [HX.out.2.2.1.zero j (by rw [Hn.out.1]; exact hj), HX.out.2.2.2.zero j (by rw [← Hn.out.2]; exact hj)], rfl⟩
    case round =>
      obtain ⟨i, nq, rfl, hi, hk, hr, rfl⟩ := hrel
      cases gk with
      | zero =>
        obtain rfl : i = -1 := by omega
        have hfin := Lib.hid (fun w' (h : ∃ n, w' = w.drewN n) => show BeyondPost x y w (.returned (.int .i64 0)) w' from ⟨0, rfl, ⟨fun _ => Int.le_of_eq (m_eq_of HX.out.2.2.2 HX.out.2.2.1 (fun j => (hr.out j (Nat.zero_le _)).symm)), fun _ => Int.le_refl _⟩, h⟩)
        go_wp2
        go_ret
        exact hfin.out _ (by first | exact ⟨_, rfl⟩ | (simp only [World.drewN_drewN]; exact ⟨_, rfl⟩))
      | succ m =>
        obtain rfl : i = (m : Int) := by omega
        have x2 := wideAt_w HX.out.1 m (by rw [HX.out.2.2.1.len]; omega)
        have y2 := wideAt_w HX.out.2.1 m (by rw [HX.out.2.2.2.len]; omega)
        by_cases he : x.ws.getD m 0 = y.ws.getD m 0
        · rw [← he] at y2
          have He := Lib.hid he
          clear he
          generalize x.ws.getD m 0 = p at x2 y2
          go_wp2
          go_quiet (fail)
          go_wp2
          go_roundg m
          case measure => omega
          case rel =>
            refine ⟨(m : Int) - 1, _, rfl, by omega, by omega, Lib.hid fun j hj => ?_, rfl⟩
            rcases Nat.eq_or_lt_of_le hj with h | h
            · rw [← h]; exact He.out
            · exact hr.out j h
        · have ho := mag_order HX.out.2.2.1 HX.out.2.2.2 (k := m) (by omega) hr.out he
          have wp := wordsOk_get HX.out.2.2.1.ok m
          have wq := wordsOk_get HX.out.2.2.2.ok m
          unfold wordOk at wp wq
          generalize x.ws.getD m 0 = p at x2 he ho wp
          generalize y.ws.getD m 0 = q at y2 he ho wq
          have hb : (p == q) = false := beq_eq_false_iff_ne.2 he
          have hb2 : (p != q) = true := bne_iff_ne.2 he
          have hfin := Lib.hid (fun w' (h : ∃ n, w' = w.drewN n) => show BeyondPost x y w (.returned (.int .i64 (p - q))) w' from ⟨p - q, rfl, ho, h⟩)
          clear he ho
          go_wp2
          go_quiet (fail)
          go_wp2
          go_quiet (fail)
          go_wp2
          go_ret
          exact hfin.out _ (by first | exact ⟨_, rfl⟩ | (simp only [World.drewN_drewN]; exact ⟨_, rfl⟩))
  · have ho := n_order HX.out.2.2.1 HX.out.2.2.2 hn
    generalize x.n = n at x1 nx hn ho
    generalize y.n = k at y1 ny hn ho
    have hb : ((n : Int) == (k : Int)) = false := beq_eq_false_iff_ne.2 (by omega)
    have hb2 : ((n : Int) != (k : Int)) = true := bne_iff_ne.2 (by omega)
    have hb3 : (n == k) = false := beq_eq_false_iff_ne.2 hn
    have hfin := Lib.hid (fun w' (h : ∃ n, w' = w.drewN n) => show BeyondPost x y w (.returned (.int .i64 ((n : Int) - (k : Int)))) w' from ⟨_, rfl, ho, h⟩)
    clear hn ho
    go_enter Tryz.func186, Tryz.ntmps186
    go_wp2
    go_quiet (fail)
    go_wp2
    go_quiet (fail)
    go_wp2
    go_ret
    exact hfin.out _ (by first | exact ⟨_, rfl⟩ | (simp only [World.drewN_drewN]; exact ⟨_, rfl⟩))
end Go.Proofs.YtdkfebfedfemaaaGreatDoor
