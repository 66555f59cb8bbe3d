/- Gcd: the greatest common divisor. -/
import Derived.Test.YtdkfebfedfemaaaGreatDoorC7
set_option linter.unusedVariables false
set_option linter.unusedSimpArgs false
namespace Go.Proofs.YtdkfebfedfemaaaGreatDoor
open Go.RowKit Go.Mlab

theorem gcd_step {x y q r : Int} (e : x = q * y + r) (hq : 0 ≤ q) (h0 : 0 ≤ r) (h1 : r < y) : Nat.gcd x.toNat y.toNat = Nat.gcd y.toNat r.toNat := by
  obtain ⟨Y, rfl⟩ : ∃ Y : Nat, y = Y := ⟨y.toNat, by omega⟩
  obtain ⟨R, rfl⟩ : ∃ R : Nat, r = R := ⟨r.toNat, by omega⟩
  obtain ⟨Q, rfl⟩ : ∃ Q : Nat, q = Q := ⟨q.toNat, by omega⟩
  have e2 : x.toNat = Q * Y + R := by rw [e, ← Int.natCast_mul, ← Int.natCast_add]; rfl
  rw [e2]
  simp only [Int.toNat_natCast]
  rw [Nat.gcd_comm, Nat.gcd_rec, Nat.gcd_comm]
  congr 1
  rw [Nat.mul_comm, Nat.mul_add_mod]
  exact Nat.mod_eq_of_lt (by omega)
theorem gcd_step_mod {m n : Int} (h0 : 0 ≤ m) (h1 : 0 < n) : Nat.gcd m.toNat n.toNat = Nat.gcd n.toNat (m.tmod n).toNat := by
  have e : m = m.tdiv n * n + m.tmod n := (Int.tdiv_mul_add_tmod m n).symm
  exact gcd_step e (Int.tdiv_nonneg h0 (Int.le_of_lt h1)) (Int.tmod_nonneg _ h0) (Int.tmod_lt_of_pos _ h1)

/-- What the loop of Gcd keeps. -/
structure Gc (G : Nat) (w : World) (bx by' : Nat) (x y : Wide) (W : World) : Prop where
  wx : WideAt W bx x
  wy : WideAt W by' y
  okx : WideOk x
  oky : WideOk y
  nx : x.n ≤ 114
  ny : y.n ≤ 114
  g : Nat.gcd x.m.toNat y.m.toNat = G
  low : w.heap.size ≤ bx ∧ w.heap.size ≤ by'
  below : Below w.heap.size w W
theorem Gc.m1 {G : Nat} {w : World} {bx by' : Nat} {x y : Wide} {W : World} (h : Gc G w bx by' x y W) (hx : x.n ≤ 1) (hy : y.n ≤ 1) : x.m = x.ws.getD 0 0 ∧ y.m = y.ws.getD 0 0 := by
  have key : ∀ z : Wide, WideOk z → z.n ≤ 1 → z.m = z.ws.getD 0 0 := by
    intro z hz hn
    have := mag_drop_one z.ws 0 (by rw [hz.len]; decide) (fun i hi => hz.zero i (by omega))
    rw [List.drop_zero] at this
    exact this
  exact ⟨key x h.okx hx, key y h.oky hy⟩

set_option maxRecDepth 100000 in
set_option maxHeartbeats 4000000 in
theorem gcd_calls (a b : Int) (w : World) (ha : fits a = true) (hb : fits b = true) (ht : Tab w) :
    Calls Tryz.prog 138 #[.string (T a), .string (T b)] w fun e w' => e = .returned (.tuple #[.string (T (Nat.gcd a.natAbs b.natAbs : Nat)), .int .i64 0]) ∧ Below w.heap.size w w' := by
  have HA := Lib.hid (all2_ok a b w 84 ha hb)
  have HT := Lib.hid ht
  clear ht
  have HRa := Lib.hid (fun w => read_calls a w ha)
  have HRb := Lib.hid (fun w => read_calls b w hb)
  obtain ⟨G, hG⟩ : ∃ G, Nat.gcd a.natAbs b.natAbs = G := ⟨_, rfl⟩
  rw [hG]
  have HM := Lib.hid (fun w1 e2 w2 e3 w3 (h1 : Below w.heap.size w w1) (h2 : NewWide w1 a e2 w2) (h3 : NewWide w2 b e3 w3) =>
      show ∃ b1 b2 x y, e2 = .returned (.pointer (some ⟨b1, 0, none⟩)) ∧ e3 = .returned (.pointer (some ⟨b2, 0, none⟩)) ∧ Hid (Gc G w b1 b2 x y w3) by
        obtain ⟨d, x, rfl, g1, g2, g3, g4, g5⟩ := h2
        obtain ⟨d', y, rfl, k1, k2, k3, k4, k5⟩ := h3
        have h6 := below_below (below_below h1 h1.size g5) (Nat.le_trans h1.size g5.size) k5
        have s3 := h1.size
        have s5 := g5.size
        refine ⟨d, d', x, y, rfl, rfl, Lib.hid ⟨wideAt_below g2 k5, k2, g3, k3, fits_n g3 (by rw [g4]; exact ha), fits_n k3 (by rw [k4]; exact hb), ?_, ⟨by omega, by omega⟩, h6⟩⟩
        rw [← z_abs x g3, ← z_abs y k3, g4, k4]
        exact hG)
  clear ha hb hG
  generalize T a = s at *
  generalize T b = t at *
  go_enter Tryz.func138, Tryz.ntmps138
  go_wp2_with (go_at_call 108; refine (HA.out).mono ?_; rintro e w1 ⟨rfl, hw1⟩)
  go_wp2_with (go_at_call 142; fail)
  refine (HRa.out _).mono ?_
  intro e3 w3 h3
  have H3 := Lib.hid h3
  obtain ⟨d, rfl⟩ : ∃ d, e3 = .returned (.pointer (some ⟨d, 0, none⟩)) := by obtain ⟨d, x, rfl, _⟩ := h3; exact ⟨d, rfl⟩
  clear h3
  go_wp2_with (go_at_call 142; fail)
  refine (HRb.out _).mono ?_
  intro e4 w4 h4
  have H4 := Lib.hid h4
  obtain ⟨d', rfl⟩ : ∃ d, e4 = .returned (.pointer (some ⟨d, 0, none⟩)) := by obtain ⟨d, x, rfl, _⟩ := h4; exact ⟨d, rfl⟩
  clear h4
  obtain ⟨b1, b2, x0, y0, e1, e2, HC⟩ := HM.out _ _ _ _ _ hw1 H3.out H4.out
  cases e1; cases e2
  clear H3 H4 HM HRa HRb HA
  go_wp2
  go_loopg [7, 8] y0.m.toNat (fun k v7 v8 wr => ∃ bx b' x y, v7 = .pointer (some ⟨bx, 0, none⟩) ∧ v8 = .pointer (some ⟨b', 0, none⟩) ∧ Hid (k = y.m.toNat ∧ Gc G w bx b' x y wr))
  case atStart => exact ⟨_, _, x0, y0, rfl, rfl, ⟨rfl, HC.out⟩⟩
  case round =>
    obtain ⟨bx, b', x, y, rfl, rfl, hr⟩ := hrel
    have c1 := wideAt_n hr.out.2.wx
    have c2 := wideAt_n hr.out.2.wy
    have lx := hr.out.2.nx
    have ly := hr.out.2.ny
    obtain ⟨xn, hxn⟩ : ∃ xn, x.n = xn := ⟨_, rfl⟩
    obtain ⟨yn, hyn⟩ : ∃ yn, y.n = yn := ⟨_, rfl⟩
    rw [hxn] at c1 lx
    rw [hyn] at c2 ly
    have HN := Lib.hid (And.intro hxn hyn)
    clear hxn hyn
    cases yn with
    | zero =>
      have hy0 : y.m = 0 := hr.out.2.oky.n_zero.1 HN.out.2
      have hx1 := hr.out.2.g
      rw [hy0] at hx1
      have hx2 : (G : Int) = x.m := by
        have h3 := hr.out.2.okx.nonneg
        rw [← hx1]; show ((Nat.gcd x.m.toNat 0 : Nat) : Int) = _
        rw [Nat.gcd_zero_right]; omega
      have okx : WideOk { x with less := false } := ⟨hr.out.2.okx.len, hr.out.2.okx.ok, hr.out.2.okx.le, hr.out.2.okx.zero, hr.out.2.okx.trim⟩
      have g3 := wideAt_less hr.out.2.wx
      have g4 := wideAt_frozen hr.out.2.wx 0
      have E7 := Lib.hid (show Calls Tryz.prog 165 #[.pointer (some ⟨bx, 0, none⟩)] (wr.setCell ⟨bx, 0, none⟩ (.bool false)) (fun e w' => e = .returned (.string (T G)) ∧ Below w.heap.size w w') by
        have hB := hr.out.2.below.setCell (p := ⟨bx, 0, none⟩) hr.out.2.low.1 (.bool false)
        refine (text_calls bx { x with less := false } _ (wideAt_set_less hr.out.2.wx false) okx (tab_below HT.out hB)).mono ?_
        rintro e w' ⟨rfl, h⟩
        refine ⟨?_, below_below hB hB.size h⟩
        rw [hx2]; rfl)
      clear hy0 hx1 hx2 okx
      go_wp2_with (go_at_call 165; refine (E7.out).mono ?_; rintro e w8 ⟨rfl, hw8⟩)
      go_ret2
      exact ⟨rfl, hw8⟩
    | succ yn =>
      have hyn0 : y.n ≠ 0 := by rw [HN.out.2]; omega
      have hD := Lib.hid (show Calls Tryz.prog 164 #[.pointer (some ⟨bx, 0, none⟩), .pointer (some ⟨b', 0, none⟩)] wr (fun e w' =>
          ∃ bq br k r, e = .returned (.tuple #[.pointer (some ⟨bq, 0, none⟩), .pointer (some ⟨br, 0, none⟩)]) ∧ r.m.toNat < gk ∧ Gc G w b' br y r w') by
        have h := hr.out.2
        refine (divided_calls bx b' x y wr h.wx h.wy h.okx h.oky hyn0 (by have := h.ny; omega)).mono ?_
        rintro e w' ⟨bq, br, k, r, rfl, m1, m2, m3, m4, m5, m6, m7, m8, m9, m10, m11, m12⟩
        have h1 := hr.out.1
        have h2 := m7.nonneg
        have h3 := h.below.size
        refine ⟨bq, br, k, r, rfl, by omega, wideAt_below h.wy m12, m5, h.oky, m7, h.ny, ?_, ?_, ⟨h.low.2, by omega⟩, below_below h.below h.below.size m12⟩
        · exact m7.n_le (Int.lt_trans m11 (Int.lt_of_lt_of_le h.oky.lt (BB_mono h.ny)))
        · rw [← h.g]; exact (gcd_step m10 m6.nonneg h2 m11).symm)
      by_cases hx1 : xn ≤ 1
      · cases yn with
        | zero =>
          have d1 := wideAt_w hr.out.2.wx 0 (by rw [hr.out.2.okx.len]; decide)
          have d2 := wideAt_w hr.out.2.wy 0 (by rw [hr.out.2.oky.len]; decide)
          have e12 := hr.out.2.m1 (by rw [HN.out.1]; exact hx1) (by rw [HN.out.2]; decide)
          have wx := wordsOk_get hr.out.2.okx.ok 0
          have wy := wordsOk_get hr.out.2.oky.ok 0
          have hg := hr.out.2.g
          rw [e12.1, e12.2] at hg
          clear e12
          generalize x.ws.getD 0 0 = m0 at *
          generalize y.ws.getD 0 0 = n0 at *
          have hx1' : (xn : Int) ≤ 1 := by omega
          replace d1 : wr.cell? ⟨bx, 2, none⟩ = some (.int .i64 m0) := d1
          replace d2 : wr.cell? ⟨b', 2, none⟩ = some (.int .i64 n0) := d2
          have HG := Lib.hid (And.intro wx (And.intro wy hg))
          clear wx wy hg
          have hWB := Lib.hid hr.out.2.below
          go_wp2
          go_quiet (fail)
          go_wp2
          go_loopg [9, 10] n0.toNat (fun k v9 v10 wq => ∃ m n : Int, v9 = .int .i64 m ∧ v10 = .int .i64 n ∧ 0 ≤ m ∧ m < 1000000000 ∧ 0 ≤ n ∧ n < 1000000000 ∧ Hid (k = n.toNat ∧ Nat.gcd m.toNat n.toNat = G ∧ Below w.heap.size w wq))
          case atStart =>
            exact ⟨m0, n0, rfl, rfl, HG.out.1.1, HG.out.1.2, HG.out.2.1.1, HG.out.2.1.2, ⟨rfl, HG.out.2.2, pw_below_drewN hWB.out _⟩⟩
          case round =>
            obtain ⟨m, n, rfl, rfl, hm0, hm1, hn0, hn1, hq⟩ := hrel
            by_cases hn : n = 0
            · subst hn
              have hGm : m = (G : Int) := by
                have := hq.out.2.1
                rw [← this]; show _ = ((Nat.gcd m.toNat 0 : Nat) : Int)
                rw [Nat.gcd_zero_right]; omega
              subst hGm
              have hO := Lib.hid (of_calls G (by omega) (by omega) wr (tab_below HT.out hq.out.2.2))
              go_wp2_with (go_at_call 79; refine (hO.out).mono ?_; rintro e w8 ⟨rfl, hw8⟩)
              go_ret2
              exact ⟨rfl, below_below hq.out.2.2 hq.out.2.2.size hw8⟩
            · have hnb : (n != 0) = true := by simpa using hn
              have e1 := gcd_step_mod hm0 (show 0 < n by omega)
              have r0 := Int.tmod_nonneg n hm0
              have r1 := Int.tmod_lt_of_pos m (show 0 < n by omega)
              rw [Int.tmod_eq_emod_of_nonneg hm0] at e1 r0 r1
              have HE := Lib.hid e1
              clear e1
              go_wp2
              go_region
              have wmod : m % n = m % n := rfl
              generalize m % n = r at *
              clear wmod
              go_wp2
              go_roundg r.toNat
              case measure => have := hq.out.1; omega
              case rel => exact ⟨n, r, rfl, rfl, hn0, hn1, r0, by omega, ⟨rfl, by rw [← HE.out]; exact hq.out.2.1, pw_below_drewN hq.out.2.2 1⟩⟩
        | succ yn =>
          have hx1' : (xn : Int) ≤ 1 := by omega
          go_wp2_with (go_at_call 164; refine (hD.out).mono ?_; rintro e w5 ⟨bq, br, k, r, rfl, hd⟩; have HR := Lib.hid hd; clear hd)
          go_roundg r.m.toNat
          case measure => exact HR.out.1
          case rel => exact ⟨b', br, y, r, rfl, rfl, ⟨rfl, HR.out.2⟩⟩
      · have hx1' : ¬ (xn : Int) ≤ 1 := by omega
        have hx1'' : 1 < (xn : Int) := by omega
        go_wp2_with (go_at_call 164; refine (hD.out).mono ?_; rintro e w5 ⟨bq, br, k, r, rfl, hd⟩; have HR := Lib.hid hd; clear hd)
        go_roundg r.m.toNat
        case measure => exact HR.out.1
        case rel => exact ⟨b', br, y, r, rfl, rfl, ⟨rfl, HR.out.2⟩⟩
end Go.Proofs.YtdkfebfedfemaaaGreatDoor
