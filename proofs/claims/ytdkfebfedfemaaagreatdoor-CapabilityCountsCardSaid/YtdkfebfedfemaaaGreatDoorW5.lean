/- (*wide).plus: an integer is added. -/
import Derived.Test.YtdkfebfedfemaaaGreatDoorW4
set_option linter.unusedVariables false
set_option linter.unusedSimpArgs false
namespace Go.Proofs.YtdkfebfedfemaaaGreatDoor
open Go.RowKit Go.Mlab

def PlusPost (b : Nat) (v : Int) (w : World) (e : Ending) (w' : World) : Prop :=
  e = .returned (.tuple #[]) ∧ ∃ z : Wide, WideAt w' b z ∧ WideOk z ∧ z.z = v ∧ Ch (· = b) w w'
theorem plus_same {x y : Wide} (h : x.less = y.less) {z : Wide} (hl : z.less = x.less) (hz : z.m = x.m + 1 * (BB 0 * y.m)) : z.z = x.z + y.z := by
  unfold Wide.z
  rw [hl, hz, BB_zero, ← h]
  cases x.less <;> simp <;> omega
theorem plus_minus {x y : Wide} (h : ¬ x.less = y.less) {z : Wide} (hl : z.less = x.less) (hz : z.m = x.m + -1 * (BB 0 * y.m)) : z.z = x.z + y.z := by
  unfold Wide.z
  rw [hl, hz, BB_zero]
  revert h
  cases x.less <;> cases y.less <;> simp <;> omega

theorem wide_size {x : Wide} (h : x.ws.length = 232) : (Tryz.prog.info? 168).map (·.size) = some (wideCells x).toArray.size := by
  have e : (Tryz.prog.info? 168).map (·.size) = some 234 := by kernel_rfl
  rw [e]; simp [wideCells, h]
theorem wide_one (x : Wide) : (wideCells x).toArray.all (·.oneCell') = true := by
  rw [Array.all_eq_true']
  intro v hv
  simp [wideCells] at hv
  rcases hv with rfl | rfl | ⟨a, _, rfl⟩ <;> rfl
set_option maxRecDepth 100000 in
theorem zero_size : Tryz.zeroCells168.size = 234 := by kernel_rfl
theorem wide_size' {x : Wide} (h : x.ws.length = 232) : (wideCells x).toArray.size = 234 := by simp [wideCells, h]
theorem wideAt_setRow {w : World} {b : Nat} {old : Array Value} (h : w.heap[b]? = some (.cells old 168 (0, 0))) (x : Wide) : WideAt (w.setRow b (wideCells x).toArray) b x := setRow_heap w b _ _ _ _ h
theorem wideAt_setRow_other {w : World} {b c : Nat} {x : Wide} (h : WideAt w c x) (hne : c ≠ b) (cs : Array Value) : WideAt (w.setRow b cs) c x := (setRow_other w b c cs hne).trans h
theorem ch_setRow {S : Nat → Prop} {w w1 : World} (h : Ch S w w1) (b : Nat) (hb : S b ∨ w.heap.size ≤ b) (cs : Array Value) : Ch S w (w1.setRow b cs) :=
  ⟨h.os, h.tape, h.output, by simp [World.setRow]; exact h.size, fun i hi hs => (setRow_other w1 b i cs (by rintro rfl; rcases hb with hb | hb; exact hs hb; omega)).trans (h.block i hi hs)⟩

set_option maxRecDepth 100000 in
set_option maxHeartbeats 400000 in
theorem plus_calls (b c : Nat) (x y : Wide) (w : World) (hbc : b ≠ c) (hx : WideAt w b x) (hy : WideAt w c y) (lx : WideOk x) (ly : WideOk y) (hs : x.m + y.m < BB 232) :
    Calls Tryz.prog 173 #[.pointer (some ⟨b, 0, none⟩), .pointer (some ⟨c, 0, none⟩)] w (PlusPost b (x.z + y.z) w) := by
  have x0 := wideAt_less hx
  have y0 := wideAt_less hy
  have nx := lx.nonneg
  have ny := ly.nonneg
  have bl := wideAt_lt hx
  have cl := wideAt_lt hy
  by_cases hl : x.less = y.less
  · have hT := fun k => carry_calls b c x y 1 0 (w.drewN k) hbc hx hy lx.loose ly.loose (by have := ly.le; omega) (by decide) (by decide) (by rw [BB_zero]; omega) (by rw [BB_zero]; omega)
    have hfin := Lib.hid (fun k w' (h : CarryPost b x y 1 0 (w.drewN k) (.returned (.tuple #[])) w') => by
      obtain ⟨_, z, h1, h2, h3, h4, h5⟩ := h
      exact (show PlusPost b (x.z + y.z) w (.returned (.tuple #[])) w' from ⟨rfl, z, h1, h2, plus_same hl h3 h4, ((Ch.refl _ _).drewN k).trans h5 (fun _ _ h => h)⟩))
    have HT := Lib.hid hT
    rw [← hl] at y0
    generalize x.less = p at x0 y0
    clear hT hl hx hy lx ly hs nx ny hbc
    go_enter Tryz.func173, Tryz.ntmps173
    go_wp2
    go_quiet (fail)
    go_wp2_with (go_at_call 169; refine (HT.out _).mono ?_; rintro e w1 h; have he := h.1; subst he; have G1 := Lib.hid (hfin.out _ _ h); clear h)
    go_end0
    exact G1.out
  · have hbd := Lib.hid (fun k => beyond_calls b c x y (w.drewN k) hx hy lx ly)
    by_cases hm : y.m ≤ x.m
    · have hT := fun k => carry_calls b c x y (-1) 0 (w.drewN k) hbc hx hy lx.loose ly.loose (by have := ly.le; omega) (by decide) (by decide) (by rw [BB_zero]; omega) (by rw [BB_zero]; omega)
      have hfin := Lib.hid (fun k w' (h : CarryPost b x y (-1) 0 (w.drewN k) (.returned (.tuple #[])) w') => by
        obtain ⟨_, z, h1, h2, h3, h4, h5⟩ := h
        exact (show PlusPost b (x.z + y.z) w (.returned (.tuple #[])) w' from ⟨rfl, z, h1, h2, plus_minus hl h3 h4, ((Ch.refl _ _).drewN k).trans h5 (fun _ _ h => h)⟩))
      have HT := Lib.hid hT
      have HM := Lib.hid hm
      have hb : (x.less == y.less) = false := beq_eq_false_iff_ne.2 hl
      generalize x.less = p at x0 hb
      generalize y.less = q at y0 hb
      clear hT hl hx hy lx ly hs nx ny hbc hm
      go_enter Tryz.func173, Tryz.ntmps173
      go_wp2
      go_quiet (fail)
      go_wp2_with (first | (go_at_call 186; refine (hbd.out _).mono ?_; rintro e w1 ⟨d, rfl, hd, nq, rfl⟩; have hd0 := hd.2 HM.out; clear hd; simp only [World.drewN_drewN]) | (go_at_call 169; refine (HT.out _).mono ?_; rintro e w1 h; have he := h.1; subst he; have G1 := Lib.hid (hfin.out _ _ h); clear h))
      go_end0
      exact G1.out
    · have hb : (x.less == y.less) = false := beq_eq_false_iff_ne.2 hl
      have HM := Lib.hid hm
      have HX := Lib.hid (And.intro hx (And.intro hy (And.intro lx (And.intro ly (And.intro hs (And.intro nx (And.intro ny (And.intro hl hbc))))))))
      generalize x.less = p at x0 hb
      generalize y.less = q at y0 hb
      have hyc := Lib.hid (fun k => show (w.drewN k).heap[c]? = some (.cells (wideCells y).toArray 168 (0, 0)) from hy)
      have hsz := Lib.hid (wide_size ly.len)
      have hsz2 := Lib.hid (show Tryz.zeroCells168.size = (wideCells y).toArray.size by rw [zero_size, wide_size' ly.len])
      have hT := Lib.hid (fun k => carry_calls w.heap.size b y x (-1) 0 (((w.drewN k).alloc (.cells Tryz.zeroCells168 168)).setRow w.heap.size (wideCells y).toArray) (by omega)
        (wideAt_setRow (alloc_new (w.drewN k) _) y) (wideAt_setRow_other (wideAt_alloc (w := w.drewN k) hx _) (by omega) _) ly.loose lx.loose (by have := lx.le; omega) (by decide) (by decide) (by rw [BB_zero]; omega) (by rw [BB_zero]; omega))
      clear hl hx hy lx ly hs nx ny hbc hm
      go_enter Tryz.func173, Tryz.ntmps173
      go_wp2
      go_quiet (fail)
      go_wp2_with (first | (go_at_call 186; refine (hbd.out _).mono ?_; rintro e w1 ⟨d, rfl, hd, nq, rfl⟩; have hd0 : ¬ 0 ≤ d := (by intro h; have h1 := hd.1 h; have h2 := HM.out; omega); clear hd; simp only [World.drewN_drewN]) | (refine wpList_load_row rfl 168 (.tmp 25) rfl c rfl 168 (wideCells y).toArray (0, 0) _ (hyc.out _) Tryz.underlying168 rfl hsz.out ?_) | (refine wpList_store_row rfl 168 (.tmp 4) (.tmp 26) rfl w.heap.size (wideCells y).toArray rfl rfl 168 Tryz.zeroCells168 (by exact alloc_new _ _) hsz.out hsz2.out (wide_one y) ?_) | (go_at_call 169; fail))
      refine (hT.out _).mono ?_
      rintro e w1 ⟨rfl, z, z1, z2, z3, z4, z5⟩
      have G1 := Lib.hid (And.intro z1 (And.intro z2 (And.intro z3 (And.intro z4 z5))))
      clear z1 z2 z3 z4 z5
      have gsz := Lib.hid (wide_size G1.out.2.1.len)
      have gb := Lib.hid (wideAt_ch (wideAt_setRow_other (wideAt_alloc (w := World.drewN w _) HX.out.1 _) (Nat.ne_of_lt bl) _) G1.out.2.2.2.2 (Nat.ne_of_lt bl))
      have gsz2 := Lib.hid (show (wideCells x).toArray.size = (wideCells z).toArray.size by rw [wide_size' HX.out.2.2.1.len, wide_size' G1.out.2.1.len])
      have gch := Lib.hid (show Ch (· = b) w w1 from ((ch_setRow (((Ch.refl (· = b) w).drewN _).alloc _) w.heap.size (.inr (Nat.le_refl _)) _).trans G1.out.2.2.2.2 (fun i hi h => by omega)))
      have hfin := Lib.hid (show PlusPost b (x.z + y.z) w (.returned (.tuple #[])) (w1.setRow b (wideCells z).toArray) from ⟨rfl, z, wideAt_setRow gb.out z, G1.out.2.1, by rw [Int.add_comm]; exact plus_minus (fun h => HX.out.2.2.2.2.2.2.2.1 h.symm) G1.out.2.2.1 G1.out.2.2.2.1, ch_setRow gch.out b (.inl rfl) _⟩)
      go_wp2_with (first | (refine wpList_load_row rfl 168 (.tmp 4) rfl w.heap.size rfl 168 (wideCells z).toArray (0, 0) _ G1.out.1 Tryz.underlying168 rfl gsz.out ?_) | (refine wpList_store_row rfl 168 (.tmp 31) (.tmp 30) rfl b (wideCells z).toArray rfl rfl 168 (wideCells x).toArray gb.out gsz.out gsz2.out (wide_one z) ?_))
      go_end0
      exact hfin.out
end Go.Proofs.YtdkfebfedfemaaaGreatDoor
