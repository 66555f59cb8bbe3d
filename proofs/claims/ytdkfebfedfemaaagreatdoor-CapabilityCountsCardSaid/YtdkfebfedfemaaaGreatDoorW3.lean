/- (*wide).times and what it stands on. -/
import Derived.Test.YtdkfebfedfemaaaGreatDoorW2
import Derived.StillTailTactics
import Derived.RegionTactic
set_option linter.unusedVariables false
set_option linter.unusedSimpArgs false
namespace Go.Proofs.YtdkfebfedfemaaaGreatDoor
open Go.RowKit Go.Mlab

def zeroW : List Int := List.replicate 232 0
theorem zeroW_len : zeroW.length = 232 := List.length_replicate
theorem zeroW_ok : wordsOk zeroW := fun a ha => by rw [List.eq_of_mem_replicate ha]; exact ⟨by decide, by decide⟩
theorem zeroW_at (i : Nat) : zeroW.getD i 0 = 0 := by
  unfold zeroW
  rw [List.getD_eq_getElem?_getD, List.getElem?_replicate]
  split <;> rfl
theorem zeroW_m (less : Bool) (n : Nat) : (Wide.mk less n zeroW).m = 0 := mag_zeros 232
/-- A new wide integer, of which the sign alone is given. -/
def newArr (v : Bool) : Array Value := (wideCells ⟨v, 0, zeroW⟩).toArray
set_option maxRecDepth 100000 in
theorem zero_wide (v : Bool) : Tryz.zeroCells168.setIfInBounds 0 (.bool v) = newArr v := by kernel_rfl
theorem wideAt_new (w : World) (v : Bool) : WideAt (w.alloc (.cells (Tryz.zeroCells168.setIfInBounds 0 (.bool v)) 168)) w.heap.size ⟨v, 0, zeroW⟩ := by
  rw [zero_wide]
  exact alloc_new w _
theorem wideOk_zero (v : Bool) : WideOk ⟨v, 0, zeroW⟩ := ⟨zeroW_len, zeroW_ok, Nat.zero_le _, fun i _ => zeroW_at i, fun h => absurd rfl h⟩

/-- What the product's loop keeps. -/
theorem times_sum {x y : Wide} (lx : WideOk x) (ly : WideOk y) {i : Nat} (hi : i < y.n) (hs : x.n + y.n ≤ 230) {z : Wide} (hz : z.m = x.m * mag (y.ws.take i)) :
    z.m + y.ws.getD i 0 * (BB i * x.m) = x.m * mag (y.ws.take (i + 1)) ∧ 0 ≤ x.m * mag (y.ws.take (i + 1)) ∧ x.m * mag (y.ws.take (i + 1)) < BB 232 := by
  have e := mag_take_succ y.ws i (by rw [ly.len]; have := ly.le; omega)
  have h0 : 0 ≤ mag (y.ws.take (i + 1)) := mag_nonneg (fun a ha => ly.ok a (List.mem_of_mem_take ha))
  have h1 : mag (y.ws.take (i + 1)) < BB (i + 1) := by
    have := mag_lt (ws := y.ws.take (i + 1)) (fun a ha => ly.ok a (List.mem_of_mem_take ha))
    rw [List.length_take, ly.len, Nat.min_eq_left (by have := ly.le; omega)] at this
    exact this
  refine ⟨?_, Int.mul_nonneg lx.nonneg h0, ?_⟩
  · rw [hz, e]; grind
  · have h2 : x.m * mag (y.ws.take (i + 1)) ≤ BB x.n * mag (y.ws.take (i + 1)) := Int.mul_le_mul_of_nonneg_right (Int.le_of_lt lx.lt) h0
    have h3 : BB x.n * mag (y.ws.take (i + 1)) < BB x.n * BB (i + 1) := Int.mul_lt_mul_of_pos_left h1 (BB_pos _)
    rw [← BB_add] at h3
    have h4 := BB_mono (show x.n + (i + 1) ≤ 232 by omega)
    omega

def NewWide (w : World) (v : Int) (e : Ending) (w' : World) : Prop :=
  ∃ d z, e = .returned (.pointer (some ⟨d, 0, none⟩)) ∧ w.heap.size ≤ d ∧ WideAt w' d z ∧ WideOk z ∧ z.z = v ∧ Below w.heap.size w w'

set_option maxRecDepth 100000 in
set_option maxHeartbeats 400000 in
theorem times_calls (b c : Nat) (x y : Wide) (w : World) (hx : WideAt w b x) (hy : WideAt w c y) (lx : WideOk x) (ly : WideOk y) (hs : x.n + y.n ≤ 230) :
    Calls Tryz.prog 143 #[.pointer (some ⟨b, 0, none⟩), .pointer (some ⟨c, 0, none⟩)] w (NewWide w (x.z * y.z)) := by
  have x0 := wideAt_less hx
  have y0 := wideAt_less hy
  have y1 := wideAt_n hy
  have bl := wideAt_lt hx
  have cl := wideAt_lt hy
  obtain ⟨p, hp⟩ : ∃ p, x.less = p := ⟨_, rfl⟩
  obtain ⟨q, hq⟩ : ∃ q, y.less = q := ⟨_, rfl⟩
  rw [hp] at x0
  rw [hq] at y0
  have Hp := Lib.hid hp
  have Hq := Lib.hid hq
  have HX := Lib.hid (And.intro hx (And.intro hy (And.intro lx (And.intro ly hs))))
  clear hp hq hx hy lx ly
  obtain ⟨v, hv⟩ : ∃ v, (p != q) = v := ⟨_, rfl⟩
  obtain ⟨ny, hny⟩ : ∃ ny, y.n = ny := ⟨_, rfl⟩
  rw [hny] at y1 hs
  have Hny := Lib.hid hny
  clear hny
  go_enter Tryz.func143, Tryz.ntmps143
  go_wp2
  go_still_tail 9, (by kernel_rfl)
  change wpList _ _ _ _ _ w.drew
  go_wp2
  go_loopg [22] ny (fun k v22 wr => ∃ (i : Nat) (z : Wide), v22 = .int .i64 i ∧ k + i = ny ∧ Hid (WideAt wr w.heap.size z ∧ WideOk z ∧ z.less = (!p == q) ∧ z.m = x.m * mag (y.ws.take i) ∧ Below w.heap.size w wr ∧ w.heap.size < wr.heap.size))
  case atStart =>
    refine ⟨0, _, rfl, by omega, ⟨wideAt_drew (wideAt_new w _), wideOk_zero _, rfl, ?_, ((Below.refl _ _).alloc (Nat.le_refl _) _).drew, by simp⟩⟩
    rw [zeroW_m, List.take_zero, mag_nil, Int.mul_zero]
  case round =>
    obtain ⟨i, z, rfl, hk, hr⟩ := hrel
    by_cases hi : i < ny
    · have hin : i < y.n := by rw [Hny.out]; exact hi
      have y2 := wideAt_w HX.out.2.1 i (by rw [HX.out.2.2.2.1.len]; have := HX.out.2.2.2.1.le; omega)
      have wy := wordsOk_get HX.out.2.2.2.1.ok i
      have hsum := times_sum HX.out.2.2.1 HX.out.2.2.2.1 hin HX.out.2.2.2.2 hr.out.2.2.2.1
      have y3 : wr.cell? ⟨c, 2 + i, none⟩ = some (.int .i64 (y.ws.getD i 0)) := (hr.out.2.2.2.2.1.cell (p := ⟨c, 2 + i, none⟩) cl).trans y2
      have hT := carry_calls w.heap.size b z x (y.ws.getD i 0) i wr (by omega) hr.out.1 (wideAt_below HX.out.1 hr.out.2.2.2.2.1) hr.out.2.1.loose HX.out.2.2.1.loose (by omega) (by unfold wordOk at wy; omega) (by unfold wordOk at wy; omega) (by rw [hsum.1]; exact hsum.2.1) (by rw [hsum.1]; exact hsum.2.2)
      have HT := Lib.hid (And.intro hT hsum.1)
      clear hT hsum y2 wy hin
      generalize hyv : y.ws.getD i 0 = yv at y3 HT
      clear hyv
      go_wp2_with (go_at_call 169; refine (HT.out.1).mono ?_; rintro e w1 ⟨rfl, z1, h1, h2, h3, h4, h5⟩; have G1 := Lib.hid (And.intro h1 (And.intro h2 (And.intro h3 (And.intro h4 h5)))); clear h1 h2 h3 h4 h5)
      go_roundg (gk - 1)
      case measure => omega
      case rel =>
        refine ⟨i + 1, z1, by go_num, by omega, ⟨G1.out.1, G1.out.2.1, G1.out.2.2.1.trans hr.out.2.2.1, ?_, ?_, ?_⟩⟩
        · rw [G1.out.2.2.2.1]; exact HT.out.2
        · exact below_ch hr.out.2.2.2.2.1 (Nat.le_of_lt hr.out.2.2.2.2.2) G1.out.2.2.2.2 (fun i hi => by omega)
        · exact Nat.lt_of_lt_of_le hr.out.2.2.2.2.2 G1.out.2.2.2.2.size
    · have e1 : mag (y.ws.take i) = y.m := by
        rw [show i = y.n by rw [Hny.out]; omega]
        exact HX.out.2.2.2.1.m_take
      have ez : z.z = x.z * y.z := by
        unfold Wide.z
        rw [hr.out.2.2.1, hr.out.2.2.2.1, e1, Hp.out, Hq.out]
        cases p <;> cases q <;> simp [Int.neg_mul, Int.mul_neg]
      have HE := Lib.hid ez
      clear e1 ez
      have hfin := Lib.hid (show NewWide w (x.z * y.z) (.returned (.pointer (some ⟨w.heap.size, 0, none⟩))) wr from ⟨_, z, rfl, Nat.le_refl _, hr.out.1, hr.out.2.1, HE.out, hr.out.2.2.2.2.1⟩)
      go_wp2
      go_ret
      exact hfin.out
end Go.Proofs.YtdkfebfedfemaaaGreatDoor
