/- (*wide).trimmed: words of 0 at the top are left out. -/
import Derived.Test.YtdkfebfedfemaaaGreatDoorW
import Derived.Deep.LoopGhost
import Derived.Deep.QuietTactic
import Derived.BigQuiet
import Derived.Outline
import Derived.OwnWalk
set_option linter.unusedVariables false
set_option linter.unusedSimpArgs false
namespace Go.Proofs.YtdkfebfedfemaaaGreatDoor
open Go.RowKit Go.Mlab

theorem trimmed_calls (b : Nat) (x : Wide) (w : World) (hx : WideAt w b x) (hl : x.ws.length = 232) (hn : x.n ≤ 232) :
    Calls Tryz.prog 168 #[.pointer (some ⟨b, 0, none⟩)] w fun e w' =>
      e = .returned (.pointer (some ⟨b, 0, none⟩)) ∧ WideAt w' b { x with n := trimN x.ws x.n } ∧ Ch (· = b) w w' := by
  have Hx := Lib.hid hx
  clear hx
  go_enter Tryz.func168, Tryz.ntmps168
  go_wp2
  go_loopg [] x.n (fun k wr => ∃ m : Nat, k = m ∧ m ≤ 232 ∧ Hid (WideAt wr b { x with n := m } ∧ trimN x.ws m = trimN x.ws x.n ∧ Ch (· = b) w wr))
  case atStart => exact ⟨x.n, rfl, hn, ⟨Hx.out, rfl, Ch.refl _ _⟩⟩
  case round =>
    obtain ⟨m, rfl, hm, hr⟩ := hrel
    have h1 := wideAt_n hr.out.1
    have hf := wideAt_frozen hr.out.1 1
    cases gk with
    | zero =>
      go_wp2
      go_quiet (fail)
      go_wp2
      go_ret
      refine ⟨rfl, ?_, ?_⟩
      · have := hr.out.2.1
        rw [← this]
        exact hr.out.1
      · exact hr.out.2.2.drewN _
    | succ m =>
      by_cases hw : x.ws.getD m 0 = 0
      · have h2 := wideAt_w hr.out.1 m (by show m < x.ws.length; omega)
        rw [hw] at h2
        go_wp2
        go_quiet (fail)
        go_wp2
        go_roundg m
        case measure => omega
        case rel =>
          refine ⟨m, rfl, by omega, ⟨?_, ?_, ?_⟩⟩
          · exact wideAt_drewN (wideAt_set_n hr.out.1 m) _
          · rw [← hr.out.2.1]; simp only [trimN, if_pos hw]
          · exact (hr.out.2.2.setCell _ (.inl rfl) _).drewN _
      · have h2 := wideAt_w hr.out.1 m (by show m < x.ws.length; omega)
        have ht : trimN x.ws x.n = m + 1 := by rw [← hr.out.2.1]; simp only [trimN, if_neg hw]
        have Ht := Lib.hid ht
        clear ht
        generalize x.ws.getD m 0 = v at h2 hw
        have hb : (v == 0) = false := beq_eq_false_iff_ne.2 hw
        clear hw
        go_wp2
        go_quiet (fail)
        go_wp2
        go_ret
        refine ⟨rfl, ?_, ?_⟩
        · rw [Ht.out]
          exact hr.out.1
        · exact hr.out.2.2.drewN _
end Go.Proofs.YtdkfebfedfemaaaGreatDoor
