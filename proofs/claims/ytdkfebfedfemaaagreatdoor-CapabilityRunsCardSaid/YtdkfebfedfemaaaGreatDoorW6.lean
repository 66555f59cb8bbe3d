/- (*wide).beyond: magnitudes compared. (*wide).plus: an integer is added. estimate: how often a magnitude may be subtracted. -/
import Derived.Test.YtdkfebfedfemaaaGreatDoorW3
set_option linter.unusedVariables false
set_option linter.unusedSimpArgs false
namespace Go.Proofs.YtdkfebfedfemaaaGreatDoor
open Go.RowKit Go.Mlab

def BeyondPost (x y : Wide) (w : World) (e : Ending) (w' : World) : Prop := ∃ d : Int, e = .returned (.int .i64 d) ∧ (0 ≤ d ↔ y.m ≤ x.m) ∧ ∃ n, w' = w.drewN n

set_option maxHeartbeats 400000 in
theorem beyond_calls (b c : Nat) (x y : Wide) (w : World) (hx : WideAt w b x) (hy : WideAt w c y) (lx : WideOk x) (ly : WideOk y) :
    Calls Tryz.prog 186 #[.pointer (some ⟨b, 0, none⟩), .pointer (some ⟨c, 0, none⟩)] w (BeyondPost x y w) := by
  have x1 := wideAt_n hx
  have y1 := wideAt_n hy
  have HX := Lib.hid (And.intro hx (And.intro hy (And.intro lx ly)))
  have nx := lx.le
  have ny := ly.le
  clear hx hy lx ly
  by_cases hn : x.n = y.n
  · rw [← hn] at y1
    obtain ⟨n, hn'⟩ : ∃ n, x.n = n := ⟨_, rfl⟩
    rw [hn'] at x1 y1 nx
    have Hn := Lib.hid (And.intro hn' (hn'.symm.trans hn))
    clear hn hn' ny
    go_enter Tryz.func186, Tryz.ntmps186
    go_wp2
    go_quiet (fail)
    go_wp2
    go_loopg [5] n (fun k v5 wr => ∃ (i : Int) (nq : Nat), v5 = .int .i64 i ∧ i + 1 = k ∧ k ≤ n ∧ Hid (∀ j, k ≤ j → x.ws.getD j 0 = y.ws.getD j 0) ∧ wr = w.drewN nq)
    case atStart => exact ⟨_, _, rfl, by omega, Nat.le_refl _, Lib.hid fun j hj => by rw [HX.out.2.2.1.zero j (by rw [Hn.out.1]; exact hj), HX.out.2.2.2.zero j (by rw [← Hn.out.2]; exact hj)], rfl⟩
    case round =>
      obtain ⟨i, nq, rfl, hi, hk, hr, rfl⟩ := hrel
      cases gk with
      | zero =>
        obtain rfl : i = -1 := by omega
        have hfin := Lib.hid (fun w' (h : ∃ n, w' = w.drewN n) => show BeyondPost x y w (.returned (.int .i64 0)) w' from ⟨0, rfl, ⟨fun _ => Int.le_of_eq (m_eq_of HX.out.2.2.2 HX.out.2.2.1 (fun j => (hr.out j (Nat.zero_le _)).symm)), fun _ => Int.le_refl _⟩, h⟩)
        go_wp2
        go_ret
        exact hfin.out _ (by first | exact ⟨_, rfl⟩ | (simp only [World.drewN_drewN]; exact ⟨_, rfl⟩))
      | succ m =>
        obtain rfl : i = (m : Int) := by omega
        have x2 := wideAt_w HX.out.1 m (by rw [HX.out.2.2.1.len]; omega)
        have y2 := wideAt_w HX.out.2.1 m (by rw [HX.out.2.2.2.len]; omega)
        by_cases he : x.ws.getD m 0 = y.ws.getD m 0
        · rw [← he] at y2
          have He := Lib.hid he
          clear he
          generalize x.ws.getD m 0 = p at x2 y2
          go_wp2
          go_quiet (fail)
          go_wp2
          go_roundg m
          case measure => omega
          case rel =>
            refine ⟨(m : Int) - 1, _, rfl, by omega, by omega, Lib.hid fun j hj => ?_, rfl⟩
            rcases Nat.eq_or_lt_of_le hj with h | h
            · rw [← h]; exact He.out
            · exact hr.out j h
        · have ho := mag_order HX.out.2.2.1 HX.out.2.2.2 (k := m) (by omega) hr.out he
          have wp := wordsOk_get HX.out.2.2.1.ok m
          have wq := wordsOk_get HX.out.2.2.2.ok m
          unfold wordOk at wp wq
          generalize x.ws.getD m 0 = p at x2 he ho wp
          generalize y.ws.getD m 0 = q at y2 he ho wq
          have hb : (p == q) = false := beq_eq_false_iff_ne.2 he
          have hb2 : (p != q) = true := bne_iff_ne.2 he
          have hfin := Lib.hid (fun w' (h : ∃ n, w' = w.drewN n) => show BeyondPost x y w (.returned (.int .i64 (p - q))) w' from ⟨p - q, rfl, ho, h⟩)
          clear he ho
          go_wp2
          go_quiet (fail)
          go_wp2
          go_quiet (fail)
          go_wp2
          go_ret
          exact hfin.out _ (by first | exact ⟨_, rfl⟩ | (simp only [World.drewN_drewN]; exact ⟨_, rfl⟩))
  · have ho := n_order HX.out.2.2.1 HX.out.2.2.2 hn
    generalize x.n = n at x1 nx hn ho
    generalize y.n = k at y1 ny hn ho
    have hb : ((n : Int) == (k : Int)) = false := beq_eq_false_iff_ne.2 (by omega)
    have hb2 : ((n : Int) != (k : Int)) = true := bne_iff_ne.2 (by omega)
    have hb3 : (n == k) = false := beq_eq_false_iff_ne.2 hn
    have hfin := Lib.hid (fun w' (h : ∃ n, w' = w.drewN n) => show BeyondPost x y w (.returned (.int .i64 ((n : Int) - (k : Int)))) w' from ⟨_, rfl, ho, h⟩)
    clear hn ho
    go_enter Tryz.func186, Tryz.ntmps186
    go_wp2
    go_quiet (fail)
    go_wp2
    go_quiet (fail)
    go_wp2
    go_ret
    exact hfin.out _ (by first | exact ⟨_, rfl⟩ | (simp only [World.drewN_drewN]; exact ⟨_, rfl⟩))
end Go.Proofs.YtdkfebfedfemaaaGreatDoor
set_option linter.unusedVariables false
set_option linter.unusedSimpArgs false
namespace Go.Proofs.YtdkfebfedfemaaaGreatDoor
open Go.RowKit Go.Mlab

def PlusPost (b : Nat) (v : Int) (w : World) (e : Ending) (w' : World) : Prop :=
  e = .returned (.tuple #[]) ∧ ∃ z : Wide, WideAt w' b z ∧ WideOk z ∧ z.z = v ∧ Ch (· = b) w w'
theorem plus_same {x y : Wide} (h : x.less = y.less) {z : Wide} (hl : z.less = x.less) (hz : z.m = x.m + 1 * (BB 0 * y.m)) : z.z = x.z + y.z := by
  unfold Wide.z
  rw [hl, hz, BB_zero, ← h]
  cases x.less <;> simp <;> omega
theorem plus_minus {x y : Wide} (h : ¬ x.less = y.less) {z : Wide} (hl : z.less = x.less) (hz : z.m = x.m + -1 * (BB 0 * y.m)) : z.z = x.z + y.z := by
  unfold Wide.z
  rw [hl, hz, BB_zero]
  revert h
  cases x.less <;> cases y.less <;> simp <;> omega

theorem wide_size {x : Wide} (h : x.ws.length = 232) : (Tryz.prog.info? 168).map (·.size) = some (wideCells x).toArray.size := by
  have e : (Tryz.prog.info? 168).map (·.size) = some 234 := by kernel_rfl
  rw [e]; simp [wideCells, h]
theorem wide_one (x : Wide) : (wideCells x).toArray.all (·.oneCell') = true := by
  rw [Array.all_eq_true']
  intro v hv
  simp [wideCells] at hv
  rcases hv with rfl | rfl | ⟨a, _, rfl⟩ <;> rfl
set_option maxRecDepth 100000 in
theorem zero_size : Tryz.zeroCells168.size = 234 := by kernel_rfl
theorem wide_size' {x : Wide} (h : x.ws.length = 232) : (wideCells x).toArray.size = 234 := by simp [wideCells, h]
theorem wideAt_setRow {w : World} {b : Nat} {old : Array Value} (h : w.heap[b]? = some (.cells old 168 (0, 0))) (x : Wide) : WideAt (w.setRow b (wideCells x).toArray) b x := setRow_heap w b _ _ _ _ h
theorem wideAt_setRow_other {w : World} {b c : Nat} {x : Wide} (h : WideAt w c x) (hne : c ≠ b) (cs : Array Value) : WideAt (w.setRow b cs) c x := (setRow_other w b c cs hne).trans h
theorem ch_setRow {S : Nat → Prop} {w w1 : World} (h : Ch S w w1) (b : Nat) (hb : S b ∨ w.heap.size ≤ b) (cs : Array Value) : Ch S w (w1.setRow b cs) :=
  ⟨h.os, h.tape, h.output, by simp [World.setRow]; exact h.size, fun i hi hs => (setRow_other w1 b i cs (by rintro rfl; rcases hb with hb | hb; exact hs hb; omega)).trans (h.block i hi hs)⟩

set_option maxRecDepth 100000 in
set_option maxHeartbeats 400000 in
theorem plus_calls (b c : Nat) (x y : Wide) (w : World) (hbc : b ≠ c) (hx : WideAt w b x) (hy : WideAt w c y) (lx : WideOk x) (ly : WideOk y) (hs : x.m + y.m < BB 232) :
    Calls Tryz.prog 173 #[.pointer (some ⟨b, 0, none⟩), .pointer (some ⟨c, 0, none⟩)] w (PlusPost b (x.z + y.z) w) := by
  have x0 := wideAt_less hx
  have y0 := wideAt_less hy
  have nx := lx.nonneg
  have ny := ly.nonneg
  have bl := wideAt_lt hx
  have cl := wideAt_lt hy
  by_cases hl : x.less = y.less
  · have hT := fun k => carry_calls b c x y 1 0 (w.drewN k) hbc hx hy lx.loose ly.loose (by have := ly.le; omega) (by decide) (by decide) (by rw [BB_zero]; omega) (by rw [BB_zero]; omega)
    have hfin := Lib.hid (fun k w' (h : CarryPost b x y 1 0 (w.drewN k) (.returned (.tuple #[])) w') => by
      obtain ⟨_, z, h1, h2, h3, h4, h5⟩ := h
      exact (show PlusPost b (x.z + y.z) w (.returned (.tuple #[])) w' from ⟨rfl, z, h1, h2, plus_same hl h3 h4, ((Ch.refl _ _).drewN k).trans h5 (fun _ _ h => h)⟩))
    have HT := Lib.hid hT
    rw [← hl] at y0
    generalize x.less = p at x0 y0
    clear hT hl hx hy lx ly hs nx ny hbc
    go_enter Tryz.func173, Tryz.ntmps173
    go_wp2
    go_quiet (fail)
    go_wp2_with (go_at_call 169; refine (HT.out _).mono ?_; rintro e w1 h; have he := h.1; subst he; have G1 := Lib.hid (hfin.out _ _ h); clear h)
    go_end0
    exact G1.out
  · have hbd := Lib.hid (fun k => beyond_calls b c x y (w.drewN k) hx hy lx ly)
    by_cases hm : y.m ≤ x.m
    · have hT := fun k => carry_calls b c x y (-1) 0 (w.drewN k) hbc hx hy lx.loose ly.loose (by have := ly.le; omega) (by decide) (by decide) (by rw [BB_zero]; omega) (by rw [BB_zero]; omega)
      have hfin := Lib.hid (fun k w' (h : CarryPost b x y (-1) 0 (w.drewN k) (.returned (.tuple #[])) w') => by
        obtain ⟨_, z, h1, h2, h3, h4, h5⟩ := h
        exact (show PlusPost b (x.z + y.z) w (.returned (.tuple #[])) w' from ⟨rfl, z, h1, h2, plus_minus hl h3 h4, ((Ch.refl _ _).drewN k).trans h5 (fun _ _ h => h)⟩))
      have HT := Lib.hid hT
      have HM := Lib.hid hm
      have hb : (x.less == y.less) = false := beq_eq_false_iff_ne.2 hl
      generalize x.less = p at x0 hb
      generalize y.less = q at y0 hb
      clear hT hl hx hy lx ly hs nx ny hbc hm
      go_enter Tryz.func173, Tryz.ntmps173
      go_wp2
      go_quiet (fail)
      go_wp2_with (first | (go_at_call 186; refine (hbd.out _).mono ?_; rintro e w1 ⟨d, rfl, hd, nq, rfl⟩; have hd0 := hd.2 HM.out; clear hd; simp only [World.drewN_drewN]) | (go_at_call 169; refine (HT.out _).mono ?_; rintro e w1 h; have he := h.1; subst he; have G1 := Lib.hid (hfin.out _ _ h); clear h))
      go_end0
      exact G1.out
    · have hb : (x.less == y.less) = false := beq_eq_false_iff_ne.2 hl
      have HM := Lib.hid hm
      have HX := Lib.hid (And.intro hx (And.intro hy (And.intro lx (And.intro ly (And.intro hs (And.intro nx (And.intro ny (And.intro hl hbc))))))))
      generalize x.less = p at x0 hb
      generalize y.less = q at y0 hb
      have hyc := Lib.hid (fun k => show (w.drewN k).heap[c]? = some (.cells (wideCells y).toArray 168 (0, 0)) from hy)
      have hsz := Lib.hid (wide_size ly.len)
      have hsz2 := Lib.hid (show Tryz.zeroCells168.size = (wideCells y).toArray.size by rw [zero_size, wide_size' ly.len])
      have hT := Lib.hid (fun k => carry_calls w.heap.size b y x (-1) 0 (((w.drewN k).alloc (.cells Tryz.zeroCells168 168)).setRow w.heap.size (wideCells y).toArray) (by omega)
        (wideAt_setRow (alloc_new (w.drewN k) _) y) (wideAt_setRow_other (wideAt_alloc (w := w.drewN k) hx _) (by omega) _) ly.loose lx.loose (by have := lx.le; omega) (by decide) (by decide) (by rw [BB_zero]; omega) (by rw [BB_zero]; omega))
      clear hl hx hy lx ly hs nx ny hbc hm
      go_enter Tryz.func173, Tryz.ntmps173
      go_wp2
      go_quiet (fail)
      go_wp2_with (first | (go_at_call 186; refine (hbd.out _).mono ?_; rintro e w1 ⟨d, rfl, hd, nq, rfl⟩; have hd0 : ¬ 0 ≤ d := (by intro h; have h1 := hd.1 h; have h2 := HM.out; omega); clear hd; simp only [World.drewN_drewN]) | (refine wpList_load_row rfl 168 (.tmp 25) rfl c rfl 168 (wideCells y).toArray (0, 0) _ (hyc.out _) Tryz.underlying168 rfl hsz.out ?_) | (refine wpList_store_row rfl 168 (.tmp 4) (.tmp 26) rfl w.heap.size (wideCells y).toArray rfl rfl 168 Tryz.zeroCells168 (by exact alloc_new _ _) hsz.out hsz2.out (wide_one y) ?_) | (go_at_call 169; fail))
      refine (hT.out _).mono ?_
      rintro e w1 ⟨rfl, z, z1, z2, z3, z4, z5⟩
      have G1 := Lib.hid (And.intro z1 (And.intro z2 (And.intro z3 (And.intro z4 z5))))
      clear z1 z2 z3 z4 z5
      have gsz := Lib.hid (wide_size G1.out.2.1.len)
      have gb := Lib.hid (wideAt_ch (wideAt_setRow_other (wideAt_alloc (w := World.drewN w _) HX.out.1 _) (Nat.ne_of_lt bl) _) G1.out.2.2.2.2 (Nat.ne_of_lt bl))
      have gsz2 := Lib.hid (show (wideCells x).toArray.size = (wideCells z).toArray.size by rw [wide_size' HX.out.2.2.1.len, wide_size' G1.out.2.1.len])
      have gch := Lib.hid (show Ch (· = b) w w1 from ((ch_setRow (((Ch.refl (· = b) w).drewN _).alloc _) w.heap.size (.inr (Nat.le_refl _)) _).trans G1.out.2.2.2.2 (fun i hi h => by omega)))
      have hfin := Lib.hid (show PlusPost b (x.z + y.z) w (.returned (.tuple #[])) (w1.setRow b (wideCells z).toArray) from ⟨rfl, z, wideAt_setRow gb.out z, G1.out.2.1, by rw [Int.add_comm]; exact plus_minus (fun h => HX.out.2.2.2.2.2.2.2.1 h.symm) G1.out.2.2.1 G1.out.2.2.2.1, ch_setRow gch.out b (.inl rfl) _⟩)
      go_wp2_with (first | (refine wpList_load_row rfl 168 (.tmp 4) rfl w.heap.size rfl 168 (wideCells z).toArray (0, 0) _ G1.out.1 Tryz.underlying168 rfl gsz.out ?_) | (refine wpList_store_row rfl 168 (.tmp 31) (.tmp 30) rfl b (wideCells z).toArray rfl rfl 168 (wideCells x).toArray gb.out gsz.out gsz2.out (wide_one z) ?_))
      go_end0
      exact hfin.out
end Go.Proofs.YtdkfebfedfemaaaGreatDoor
set_option linter.unusedVariables false
set_option linter.unusedSimpArgs false
namespace Go.Proofs.YtdkfebfedfemaaaGreatDoor
open Go.RowKit Go.Mlab

set_option maxHeartbeats 400000 in
theorem top_calls (b : Nat) (x : Wide) (i : Nat) (w : World) (hx : WideAt w b x) (lx : WideOk x) (hi : i ≤ 1000) :
    Calls Tryz.prog 207 #[.pointer (some ⟨b, 0, none⟩), .int .i64 i] w fun e w' => e = .returned (.int .i64 (x.ws.getD i 0)) ∧ w' = w := by
  have x1 := wideAt_n hx
  have nx := lx.le
  have hn : ¬ ((i : Int) < 0) := by omega
  by_cases h : x.n ≤ i
  · have e := lx.zero i h
    rw [e]
    generalize x.n = n at x1 h nx
    clear e hx lx
    go_enter Tryz.func207, Tryz.ntmps207
    go_wp2
    go_ret
    exact ⟨rfl, rfl⟩
  · have x2 := wideAt_w hx i (by rw [lx.len]; omega)
    generalize x.ws.getD i 0 = v at x2
    generalize x.n = n at x1 h nx
    clear hx lx
    go_enter Tryz.func207, Tryz.ntmps207
    go_wp2
    go_ret
    exact ⟨rfl, rfl⟩

theorem wide_low {x : Wide} (lx : WideOk x) {m : Nat} (h : x.n ≤ m + 2) (hm : m + 1 < 232) : ∃ l, 0 ≤ l ∧ l < BB m ∧ x.m = l + (x.ws.getD (m + 1) 0 * 1000000000 + x.ws.getD m 0) * BB m := by
  have e := mag_take_of_zero x.ws (m + 2) (fun i hi => lx.zero i (by omega))
  rw [mag_take_succ x.ws (m + 1) (by rw [lx.len]; exact hm), mag_take_succ x.ws m (by rw [lx.len]; omega), BB_succ] at e
  have a0 := mag_nonneg (ws := x.ws.take m) (fun a ha => lx.ok a (List.mem_of_mem_take ha))
  have a1 := mag_lt (ws := x.ws.take m) (fun a ha => lx.ok a (List.mem_of_mem_take ha))
  rw [List.length_take, lx.len, Nat.min_eq_left (by omega)] at a1
  refine ⟨_, a0, a1, ?_⟩
  unfold Wide.m
  rw [← e]; grind
theorem est_le {a b B xm ym k : Int} (hb : 1 ≤ b) (ha : 0 ≤ a) (hB : 0 ≤ B) (hx : a * B ≤ xm) (hy : ym ≤ b * B) (hy0 : 0 ≤ ym) (hk : 0 ≤ k) (h : k ≤ a / b) : k * ym ≤ xm := by
  have h1 : k * ym ≤ k * (b * B) := Int.mul_le_mul_of_nonneg_left hy hk
  have h2 : k * b ≤ a := by
    have h3 : k * b ≤ a / b * b := Int.mul_le_mul_of_nonneg_right h (by omega)
    have h4 := Int.ediv_mul_le a (show b ≠ 0 by omega)
    omega
  have h5 : k * b * B ≤ a * B := Int.mul_le_mul_of_nonneg_right h2 hB
  rw [Int.mul_assoc] at h5
  omega

/-- What estimate returns. -/
def EstPost (x y : Wide) (w : World) (e : Ending) (w' : World) : Prop := ∃ k : Int, e = .returned (.int .i64 k) ∧ 1 ≤ k ∧ k ≤ 999999999 ∧ k * y.m ≤ x.m ∧ ∃ n, w' = w.drewN n

theorem est_ok {x y : Wide} (lx : WideOk x) (ly : WideOk y) {m : Nat} (hm : y.n = m + 1) (hy2 : y.n ≤ 230) (hlt : x.n ≤ y.n + 1) {D k : Int} (hD : 1 ≤ D) (hD2 : y.ws.getD m 0 + 1 ≤ D ∨ m = 0 ∧ D = y.ws.getD m 0) (hk : 1 ≤ k)
    (h : k ≤ (x.ws.getD (m + 1) 0 * 1000000000 + x.ws.getD m 0) / D) : k * y.m ≤ x.m := by
  obtain ⟨l, l0, l1, e⟩ := wide_low lx (m := m) (by omega) (by omega)
  have ey := mag_take_succ y.ws m (by rw [ly.len]; omega)
  rw [← hm, ly.m_take] at ey
  have a0 := mag_nonneg (ws := y.ws.take m) (fun a ha => ly.ok a (List.mem_of_mem_take ha))
  have a1 := mag_lt (ws := y.ws.take m) (fun a ha => ly.ok a (List.mem_of_mem_take ha))
  rw [List.length_take, ly.len, Nat.min_eq_left (by omega)] at a1
  have wp := wordsOk_get lx.ok (m + 1)
  have wq := wordsOk_get lx.ok m
  unfold wordOk at wp wq
  refine est_le hD (by omega) (Int.le_of_lt (BB_pos m)) (by omega) ?_ ly.nonneg (by omega) h
  rcases hD2 with h1 | ⟨rfl, h1⟩
  · have h2 : (y.ws.getD m 0 + 1) * BB m ≤ D * BB m := Int.mul_le_mul_of_nonneg_right h1 (Int.le_of_lt (BB_pos m))
    rw [Int.add_mul] at h2
    omega
  · rw [BB_zero] at *
    rw [h1, Int.mul_one] at *
    omega

set_option maxHeartbeats 1000000 in
theorem estimate_calls (b c : Nat) (x y : Wide) (w : World) (hx : WideAt w b x) (hy : WideAt w c y) (lx : WideOk x) (ly : WideOk y) (h0 : y.n ≠ 0) (hy2 : y.n ≤ 230) (hle : y.m ≤ x.m) (hlt : x.n ≤ y.n + 1) :
    Calls Tryz.prog 187 #[.pointer (some ⟨b, 0, none⟩), .pointer (some ⟨c, 0, none⟩)] w (EstPost x y w) := by
  obtain ⟨m, hm⟩ : ∃ m, y.n = m + 1 := ⟨y.n - 1, by omega⟩
  have y1 := wideAt_n hy
  have ny := ly.le
  have HX := Lib.hid (And.intro hx (And.intro hy (And.intro lx (And.intro ly (And.intro hle (And.intro hy2 hlt))))))
  have t1 := Lib.hid (fun k => top_calls b x (m + 1) (w.drewN k) hx lx (by omega))
  have t2 := Lib.hid (fun k => top_calls b x m (w.drewN k) hx lx (by omega))
  have t3 := Lib.hid (fun k => top_calls c y m (w.drewN k) hy ly (by omega))
  have wp := wordsOk_get lx.ok (m + 1)
  have wq := wordsOk_get lx.ok m
  have wr := wordsOk_get ly.ok m
  have wt := ly.trim h0
  rw [hm, Nat.add_sub_cancel] at wt
  unfold wordOk at wp wq wr
  have Hm := Lib.hid hm
  rw [hm] at y1 ny
  generalize hP : x.ws.getD (m + 1) 0 = P at wp t1
  generalize hQ : x.ws.getD m 0 = Q at wq t2
  generalize hR : y.ws.getD m 0 = R at wr wt t3
  have t1' : ∀ k, Calls Tryz.prog 207 #[.pointer (some ⟨b, 0, none⟩), .int .i64 ((m : Int) + 1)] (w.drewN k) fun e w' => e = .returned (.int .i64 P) ∧ w' = w.drewN k := t1.out
  have T1 := Lib.hid t1'
  clear t1 t1'
  have HP := Lib.hid (And.intro hP (And.intro hQ hR))
  clear hx hy lx ly h0 hle hlt hm hP hQ hR hy2
  have hfin : ∀ D k : Int, 1 ≤ D → (R + 1 ≤ D ∨ m = 0 ∧ D = R) → 1 ≤ k → k ≤ 999999999 → (k ≤ (P * 1000000000 + Q) / D ∨ k = 1) → ∀ n, EstPost x y w (.returned (.int .i64 k)) (w.drewN n) := by
    intro D k h1 h2 h3 h4 h5 n
    refine ⟨k, rfl, h3, h4, ?_, n, rfl⟩
    rcases h5 with h5 | rfl
    · exact est_ok HX.out.2.2.1 HX.out.2.2.2.1 Hm.out HX.out.2.2.2.2.2.1 HX.out.2.2.2.2.2.2 h1 (by rw [HP.out.2.2]; exact h2) h3 (by rw [HP.out.1, HP.out.2.1]; exact h5)
    · rw [Int.one_mul]; exact HX.out.2.2.2.2.1
  have HF := Lib.hid hfin
  clear hfin
  have Hwt := Lib.hid wt
  clear wt
  go_enter Tryz.func187, Tryz.ntmps187
  go_wp2
  go_quiet ((go_at_call 207; first | with_reducible exact Calls.quiet_of_same (T1.out _) | with_reducible exact Calls.quiet_of_same (t2.out _) | with_reducible exact Calls.quiet_of_same (t3.out _)))
  have hR1 : 1 ≤ R := by have := Hwt.out; omega
  by_cases h1 : m = 0
  · have hg : ¬ (1 : Int) < (m : Int) + 1 := by omega
    have Hh := Lib.hid h1
    clear h1
    by_cases h2 : 0 < (P * 1000000000 + Q) / R
    · go_wp2
      all_goals
        go_ret
        exact HF.out R _ hR1 (.inr ⟨Hh.out, rfl⟩) (by omega) (by omega) (.inl (by omega)) _
    · go_wp2
      go_ret
      exact HF.out R _ hR1 (.inr ⟨Hh.out, rfl⟩) (by omega) (by omega) (.inr rfl) _
  · have hg : (1 : Int) < (m : Int) + 1 := by omega
    by_cases h2 : 0 < (P * 1000000000 + Q) / (R + 1)
    · go_wp2
      all_goals
        go_ret
        exact HF.out (R + 1) _ (by omega) (.inl (by omega)) (by omega) (by omega) (.inl (by omega)) _
    · go_wp2
      go_ret
      exact HF.out (R + 1) _ (by omega) (.inl (by omega)) (by omega) (by omega) (.inr rfl) _
end Go.Proofs.YtdkfebfedfemaaaGreatDoor
