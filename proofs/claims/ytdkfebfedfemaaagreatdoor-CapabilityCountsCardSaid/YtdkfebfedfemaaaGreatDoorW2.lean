/- (*wide).carry: a factor times a magnitude is added to another one, some words higher. -/
import Derived.Test.YtdkfebfedfemaaaGreatDoorW1
import Derived.IntWalk
set_option linter.unusedVariables false
set_option linter.unusedSimpArgs false
namespace Go.Proofs.YtdkfebfedfemaaaGreatDoor
open Go.RowKit Go.Mlab

def CarryPost (b : Nat) (x y : Wide) (factor : Int) (up : Nat) (w : World) (e : Ending) (w' : World) : Prop :=
  e = .returned (.tuple #[]) ∧ ∃ z : Wide, WideAt w' b z ∧ WideOk z ∧ z.less = x.less ∧ z.m = x.m + factor * (BB up * y.m) ∧ Ch (· = b) w w'

theorem carry_end {w wr : World} {b : Nat} {less : Bool} {n i up ny : Nat} {ws w0 ys : List Int} {factor rest r q m : Int} (h : Carry w0 ys factor up ny i rest n ws ∧ WideAt wr b ⟨less, n, ws⟩ ∧ Ch (· = b) w wr)
    (hc : Carry w0 ys factor up ny (i + 1) r (max n (i + up + 1)) (ws.set (i + up) q)) (hm : m = ((max n (i + up + 1) : Nat) : Int)) :
    Hid (Carry w0 ys factor up ny (i + 1) r (max n (i + up + 1)) (ws.set (i + up) q) ∧
      WideAt ((wr.setCell ⟨b, 2 + (i + up), none⟩ (.int .i64 q)).setCell ⟨b, 1, none⟩ (.int .i64 m)) b ⟨less, max n (i + up + 1), ws.set (i + up) q⟩ ∧
      Ch (· = b) w ((wr.setCell ⟨b, 2 + (i + up), none⟩ (.int .i64 q)).setCell ⟨b, 1, none⟩ (.int .i64 m))) :=
  ⟨hc, by rw [hm]; exact wideAt_set_n (wideAt_set_w h.2.1 (i + up) q) _, (h.2.2.setCell _ (.inl rfl) _).setCell _ (.inl rfl) _⟩

set_option maxHeartbeats 1000000 in
theorem carry_calls (b c : Nat) (x y : Wide) (factor : Int) (up : Nat) (w : World) (hbc : b ≠ c) (hx : WideAt w b x) (hy : WideAt w c y) (lx : Loose x) (ly : Loose y)
    (hup : y.n + up ≤ 232) (hf0 : -1000000000 ≤ factor) (hf1 : factor ≤ 1000000000) (ht0 : 0 ≤ x.m + factor * (BB up * y.m)) (ht1 : x.m + factor * (BB up * y.m) < BB 232) :
    Calls Tryz.prog 169 #[.pointer (some ⟨b, 0, none⟩), .pointer (some ⟨c, 0, none⟩), .int .i64 factor, .int .i64 up] w (CarryPost b x y factor up w) := by
  have H := Lib.hid (And.intro hx (And.intro hy (And.intro lx (And.intro ly (And.intro ht0 ht1)))))
  clear hx hy lx ly ht0 ht1
  obtain ⟨ny, hny⟩ : ∃ ny, y.n = ny := ⟨_, rfl⟩
  rw [hny] at hup
  have Hny := Lib.hid hny
  clear hny
  have Hbc := Lib.hid hbc
  clear hbc
  have hup2 : up ≤ 232 := by omega
  go_enter Tryz.func169, Tryz.ntmps169
  go_wp2
  go_loopg [8, 9] (232 - up) (fun k v8 v9 wr => ∃ (i n : Nat) (rest : Int) (ws : List Int), v8 = .int .i64 rest ∧ v9 = .int .i64 i ∧ k + (i + up) = 232 ∧ Hid (Carry x.ws y.ws factor up ny i rest n ws ∧ WideAt wr b ⟨x.less, n, ws⟩ ∧ Ch (· = b) w wr))
  case atStart => exact ⟨0, x.n, 0, x.ws, rfl, rfl, by omega, ⟨Carry.start H.out.2.2.1.len H.out.2.2.1.ok H.out.2.2.1.le H.out.2.2.1.zero hup2, H.out.1, Ch.refl _ _⟩⟩
  case round =>
    obtain ⟨i, n, rest, ws, rfl, rfl, hk, hr⟩ := hrel
    have hya : WideAt wr c y := wideAt_ch H.out.2.1 hr.out.2.2 (fun e => Hbc.out e.symm)
    have y1 := wideAt_n hya
    rw [Hny.out] at y1
    have x1 := wideAt_n hr.out.2.1
    have xf := wideAt_frozen hr.out.2.1
    have b1 := hr.out.1.lo
    have b2 := hr.out.1.hi
    have bn := hr.out.1.le
    have Hya := Lib.hid hya
    clear hya
    by_cases hi : i < ny
    · have hp : i + up < 232 := by omega
      have y2 := wideAt_w Hya.out i (by rw [H.out.2.2.2.1.len]; omega)
      have x2 := wideAt_w hr.out.2.1 (i + up) (by show i + up < ws.length; rw [hr.out.1.len]; omega)
      have wy := wordsOk_get H.out.2.2.2.1.ok i
      have wx := wordsOk_get hr.out.1.ok (i + up)
      have hs := Lib.hid (fun r q => hr.out.1.step H.out.2.2.2.1.ok hf0 hf1 hp r q)
      generalize ws.getD (i + up) 0 = a at x2 wx hs
      generalize y.ws.getD i 0 = yv at y2 wy hs
      have pb := mul_bounds hf0 hf1 wy
      unfold wordOk at wx wy
      obtain ⟨p, hp'⟩ : ∃ p, factor * yv = p := ⟨_, rfl⟩
      rw [hp'] at pb
      have hm : wrap64 (factor * yv) = p := by rw [hp']; exact IntWalk.wrap64_in _ ⟨by omega, by omega⟩
      have Hp := Lib.hid hp'
      clear hp'
      obtain ⟨r0, hq, r1, r2, r3, r4⟩ := tdiv_parts (a + rest + p) (by omega) (by omega)
      have hl := H.out.2.2.2.1.len
      have HL := Lib.hid hl
      clear hl
      by_cases hneg : a + rest + p - r0 * 1000000000 < 0
      · go_wp2
        all_goals
          go_roundg (gk - 1)
          case measure => omega
          case rel => exact ⟨i + 1, max n (i + up + 1), _, ws.set (i + up) _, rfl, by go_num, by omega, carry_end hr.out (hs.out _ _ (by rw [Hp.out]; omega) (by omega) (by omega) (by rw [HL.out]; omega)) (by omega)⟩
      · go_wp2
        all_goals
          go_roundg (gk - 1)
          case measure => omega
          case rel => exact ⟨i + 1, max n (i + up + 1), _, ws.set (i + up) _, rfl, by go_num, by omega, carry_end hr.out (hs.out _ _ (by rw [Hp.out]; omega) (by omega) (by omega) (by rw [HL.out]; omega)) (by omega)⟩
    · have hs := Lib.hid (hr.out.1.inside (fun j hj => H.out.2.2.2.1.zero j (by rw [Hny.out]; exact hj)) H.out.2.2.2.2.1 H.out.2.2.2.2.2 (by omega))
      have hz : y.ws.getD i 0 = 0 := H.out.2.2.2.1.zero i (by rw [Hny.out]; omega)
      by_cases h0 : rest = 0
      · subst h0
        have hfin : CarryPost b x y factor up w (.returned (.tuple #[])) = fun w' => ∃ z : Wide, WideAt w' b z ∧ WideOk z ∧ z.less = x.less ∧ z.m = x.m + factor * (BB up * y.m) ∧ Ch (· = b) w w' := by
          funext w'
          simp [CarryPost]
        have Hfin := Lib.hid hfin
        clear hs hz hfin
        have hT := trimmed_calls b ⟨x.less, n, ws⟩ wr hr.out.2.1 hr.out.1.len bn
        have HT := Lib.hid hT
        clear hT
        go_wp2_with (go_at_call 168; refine (HT.out).mono ?_; rintro e w1 ⟨rfl, h1, h2⟩; have G1 := Lib.hid (And.intro h1 h2); clear h1 h2)
        go_end0
        rw [Hfin.out]
        refine ⟨_, G1.out.1, trim_ok hr.out.1.len hr.out.1.ok bn hr.out.1.zero, rfl, ?_, hr.out.2.2.trans G1.out.2 (fun i _ h => h)⟩
        have hsum := hr.out.1.sum
        have ht := mag_take_of_zero y.ws i (fun j hj => H.out.2.2.2.1.zero j (by rw [Hny.out]; omega))
        rw [ht, Int.zero_mul, Int.add_zero] at hsum
        exact hsum
      · have hp : i + up < 232 := hs.out h0
        have x2 := wideAt_w hr.out.2.1 (i + up) (by show i + up < ws.length; rw [hr.out.1.len]; omega)
        have wx := wordsOk_get hr.out.1.ok (i + up)
        have hst := Lib.hid (fun r q => hr.out.1.step H.out.2.2.2.1.ok hf0 hf1 hp r q)
        rw [hz, Int.mul_zero] at hst
        clear hz hs
        generalize ws.getD (i + up) 0 = a at x2 wx hst
        unfold wordOk at wx
        have hb : (rest == 0) = false := beq_eq_false_iff_ne.2 h0
        have hb2 : (rest != 0) = true := bne_iff_ne.2 h0
        clear h0
        have hl := H.out.2.2.2.1.len
        have HL := Lib.hid hl
        clear hl
        obtain ⟨r0, hq, r1, r2, r3, r4⟩ := tdiv_parts (a + rest) (by omega) (by omega)
        by_cases hneg : a + rest - r0 * 1000000000 < 0
        all_goals
          go_wp2
          all_goals
            go_roundg (gk - 1)
            case measure => omega
            case rel => exact ⟨i + 1, max n (i + up + 1), _, ws.set (i + up) _, rfl, by go_num, by omega, carry_end hr.out (hst.out _ _ (by omega) (by omega) (by omega) (by rw [HL.out]; omega)) (by omega)⟩
end Go.Proofs.YtdkfebfedfemaaaGreatDoor
