/- The memory of a wide integer: one block of 234 cells; what holds of it across stores, new blocks and draws. (*wide).trimmed: words of 0 at the top are left out. (*wide).carry: a factor times a magnitude is added to another one, some words higher. (*wide).times and what it stands on. -/
import Derived.Test.YtdkfebfedfemaaaGreatDoorM4
import Derived.Test.YtdkfebfedfemaaaGreatDoorProg
import Derived.WalkKit
import Derived.Laws.Rows
import Derived.Laws.NewBlocks
import Derived.Laws.AppendOwn
import Derived.Below
import Derived.Deep.Draws
import Derived.Lib.Hide
import Derived.Deep.LoopGhost
import Derived.Deep.QuietTactic
import Derived.BigQuiet
import Derived.Outline
import Derived.OwnWalk
import Derived.IntWalk
import Derived.StillTailTactics
import Derived.RegionTactic
set_option linter.unusedVariables false
set_option linter.unusedSimpArgs false
namespace Go.Proofs.YtdkfebfedfemaaaGreatDoor
open Go.RowKit Go.Mlab

theorem alloc_old (w : World) (o : Obj) (i : Nat) (h : i < w.heap.size) : (w.alloc o).heap[i]? = w.heap[i]? := by
  show (w.heap.push o)[i]? = w.heap[i]?
  rw [Array.getElem?_push, if_neg (Nat.ne_of_lt h)]
theorem alloc_new (w : World) (o : Obj) : (w.alloc o).heap[w.heap.size]? = some o := by
  show (w.heap.push o)[w.heap.size]? = some o
  simp
/-- Nothing that was there has changed but the blocks that S names. -/
structure Ch (S : Nat → Prop) (w w' : World) : Prop where
  os : w'.os = w.os
  tape : w'.tape = w.tape
  output : w'.output = w.output
  size : w.heap.size ≤ w'.heap.size
  block : ∀ k, k < w.heap.size → ¬ S k → w'.heap[k]? = w.heap[k]?
namespace Ch
variable {S T : Nat → Prop} {w w1 w2 : World}
theorem refl (S : Nat → Prop) (w : World) : Ch S w w := ⟨rfl, rfl, rfl, Nat.le_refl _, fun _ _ _ => rfl⟩
theorem trans (h : Ch S w w1) (k : Ch T w1 w2) (hT : ∀ i, i < w.heap.size → T i → S i) : Ch S w w2 :=
  ⟨k.os.trans h.os, k.tape.trans h.tape, k.output.trans h.output, Nat.le_trans h.size k.size, fun i hi hs => (k.block i (Nat.lt_of_lt_of_le hi h.size) (fun ht => hs (hT i hi ht))).trans (h.block i hi hs)⟩
theorem mono (h : Ch S w w1) (hT : ∀ i, i < w.heap.size → S i → T i) : Ch T w w1 := ⟨h.os, h.tape, h.output, h.size, fun i hi hs => h.block i hi (fun hh => hs (hT i hi hh))⟩
theorem alloc (h : Ch S w w1) (o : Obj) : Ch S w (w1.alloc o) :=
  ⟨h.os, h.tape, h.output, by simp; have := h.size; omega, fun i hi hs => (alloc_old w1 o i (Nat.lt_of_lt_of_le hi h.size)).trans (h.block i hi hs)⟩
theorem setCell (h : Ch S w w1) (p : Addr) (hp : S p.block ∨ w.heap.size ≤ p.block) (v : Value) : Ch S w (w1.setCell p v) :=
  ⟨h.os, h.tape, h.output, by simp; exact h.size, fun i hi hs => (heap_setCell_other w1 p i v (by rintro rfl; rcases hp with hp | hp; exact hs hp; omega)).trans (h.block i hi hs)⟩
theorem drew (h : Ch S w w1) : Ch S w w1.drew := ⟨h.os, h.tape, h.output, h.size, h.block⟩
theorem drewN (h : Ch S w w1) (n : Nat) : Ch S w (w1.drewN n) := ⟨h.os, h.tape, h.output, h.size, h.block⟩
theorem of_below (h : Below w.heap.size w w1) : Ch S w w1 := ⟨h.os, h.tape, h.output, h.size, fun i hi _ => h.block i hi⟩
theorem below (h : Ch S w w1) (B : Nat) (hB : B ≤ w.heap.size) (hS : ∀ i, S i → B ≤ i) : Below B w w1 :=
  ⟨h.os, h.tape, h.output, h.size, fun i hi => h.block i (by omega) (fun hs => by have := hS i hs; omega)⟩
end Ch
/-- Below B, one world behind another, which a call has changed at new blocks alone. -/
theorem below_ch {S : Nat → Prop} {B : Nat} {w0 w w1 : World} (h : Below B w0 w) (hB : B ≤ w.heap.size) (k : Ch S w w1) (hS : ∀ i, S i → B ≤ i) : Below B w0 w1 := h.trans (k.below B hB hS)
theorem below_below {B : Nat} {w0 w w1 : World} (h : Below B w0 w) (hB : B ≤ w.heap.size) (k : Below w.heap.size w w1) : Below B w0 w1 := h.trans ⟨k.os, k.tape, k.output, k.size, fun i hi => k.block i (by omega)⟩

/-- The cells of a wide integer. -/
def wideCells (x : Wide) : List Value := .bool x.less :: .int .i64 x.n :: x.ws.map (Value.int .i64)
def WideAt (w : World) (b : Nat) (x : Wide) : Prop := w.heap[b]? = some (.cells (wideCells x).toArray 168 (0, 0))
theorem wideAt_lt {w : World} {b : Nat} {x : Wide} (h : WideAt w b x) : b < w.heap.size := (Array.getElem?_eq_some_iff.1 h).1
theorem wideAt_cell {w : World} {b : Nat} {x : Wide} (h : WideAt w b x) (j : Nat) : w.cell? ⟨b, j, none⟩ = (wideCells x)[j]? := by
  rw [cell_of_row w b j _ _ _ h]; simp
theorem wideAt_less {w : World} {b : Nat} {x : Wide} (h : WideAt w b x) : w.cell? ⟨b, 0, none⟩ = some (.bool x.less) := by rw [wideAt_cell h]; rfl
theorem wideAt_n {w : World} {b : Nat} {x : Wide} (h : WideAt w b x) : w.cell? ⟨b, 1, none⟩ = some (.int .i64 x.n) := by rw [wideAt_cell h]; rfl
theorem wideAt_w {w : World} {b : Nat} {x : Wide} (h : WideAt w b x) (i : Nat) (hi : i < x.ws.length) : w.cell? ⟨b, 2 + i, none⟩ = some (.int .i64 (x.ws.getD i 0)) := by
  rw [wideAt_cell h, Nat.add_comm 2 i]
  show (x.ws.map (Value.int .i64))[i]? = _
  rw [List.getElem?_map, List.getD_eq_getElem?_getD, List.getElem?_eq_getElem hi]; rfl
theorem wideAt_frozen {w : World} {b : Nat} {x : Wide} (h : WideAt w b x) (j : Nat) : w.frozen? ⟨b, j, none⟩ = false := by
  unfold World.frozen?; unfold WideAt at h; rw [h]; simp
theorem wideAt_ch {S : Nat → Prop} {w w1 : World} {b : Nat} {x : Wide} (h : WideAt w b x) (k : Ch S w w1) (hb : ¬ S b) : WideAt w1 b x := (k.block b (wideAt_lt h) hb).trans h
theorem wideAt_below {w w1 : World} {b : Nat} {x : Wide} (h : WideAt w b x) (k : Below w.heap.size w w1) : WideAt w1 b x := (k.block b (wideAt_lt h)).trans h
theorem wideAt_alloc {w : World} {b : Nat} {x : Wide} (h : WideAt w b x) (o : Obj) : WideAt (w.alloc o) b x := (alloc_old w o b (wideAt_lt h)).trans h
theorem wideAt_drewN {w : World} {b : Nat} {x : Wide} (h : WideAt w b x) (n : Nat) : WideAt (w.drewN n) b x := h
theorem wideAt_drew {w : World} {b : Nat} {x : Wide} (h : WideAt w b x) : WideAt w.drew b x := h
theorem wideAt_far {w : World} {b : Nat} {x : Wide} (h : WideAt w b x) (p : Addr) (hp : b ≠ p.block) (v : Value) : WideAt (w.setCell p v) b x := (heap_setCell_other w p b v hp).trans h
theorem wideAt_set {w : World} {b : Nat} {x : Wide} (h : WideAt w b x) (j : Nat) (v : Value) {y : Wide} (e : (wideCells x).set j v = wideCells y) : WideAt (w.setCell ⟨b, j, none⟩ v) b y := by
  unfold WideAt
  rw [heap_setCell_same w b j _ _ v h, ← e]; simp
theorem wideAt_set_n {w : World} {b : Nat} {x : Wide} (h : WideAt w b x) (m : Nat) : WideAt (w.setCell ⟨b, 1, none⟩ (.int .i64 m)) b { x with n := m } := wideAt_set h 1 _ rfl
theorem wideAt_set_less {w : World} {b : Nat} {x : Wide} (h : WideAt w b x) (m : Bool) : WideAt (w.setCell ⟨b, 0, none⟩ (.bool m)) b { x with less := m } := wideAt_set h 0 _ rfl
theorem wideAt_set_w {w : World} {b : Nat} {x : Wide} (h : WideAt w b x) (i : Nat) (v : Int) : WideAt (w.setCell ⟨b, 2 + i, none⟩ (.int .i64 v)) b { x with ws := x.ws.set i v } := by
  refine wideAt_set h (2 + i) _ ?_
  rw [Nat.add_comm 2 i]
  show Value.bool x.less :: .int .i64 x.n :: (x.ws.map (Value.int .i64)).set i (.int .i64 v) = _
  rw [← List.map_set]; rfl
end Go.Proofs.YtdkfebfedfemaaaGreatDoor
set_option linter.unusedVariables false
set_option linter.unusedSimpArgs false
namespace Go.Proofs.YtdkfebfedfemaaaGreatDoor
open Go.RowKit Go.Mlab

theorem trimmed_calls (b : Nat) (x : Wide) (w : World) (hx : WideAt w b x) (hl : x.ws.length = 232) (hn : x.n ≤ 232) :
    Calls Tryz.prog 168 #[.pointer (some ⟨b, 0, none⟩)] w fun e w' =>
      e = .returned (.pointer (some ⟨b, 0, none⟩)) ∧ WideAt w' b { x with n := trimN x.ws x.n } ∧ Ch (· = b) w w' := by
  have Hx := Lib.hid hx
  clear hx
  go_enter Tryz.func168, Tryz.ntmps168
  go_wp2
  go_loopg [] x.n (fun k wr => ∃ m : Nat, k = m ∧ m ≤ 232 ∧ Hid (WideAt wr b { x with n := m } ∧ trimN x.ws m = trimN x.ws x.n ∧ Ch (· = b) w wr))
  case atStart => exact ⟨x.n, rfl, hn, ⟨Hx.out, rfl, Ch.refl _ _⟩⟩
  case round =>
    obtain ⟨m, rfl, hm, hr⟩ := hrel
    have h1 := wideAt_n hr.out.1
    have hf := wideAt_frozen hr.out.1 1
    cases gk with
    | zero =>
      go_wp2
      go_quiet (fail)
      go_wp2
      go_ret
      refine ⟨rfl, ?_, ?_⟩
      · have := hr.out.2.1
        rw [← this]
        exact hr.out.1
      · exact hr.out.2.2.drewN _
    | succ m =>
      by_cases hw : x.ws.getD m 0 = 0
      · have h2 := wideAt_w hr.out.1 m (by show m < x.ws.length; omega)
        rw [hw] at h2
        go_wp2
        go_quiet (fail)
        go_wp2
        go_roundg m
        case measure => omega
        case rel =>
          refine ⟨m, rfl, by omega, ⟨?_, ?_, ?_⟩⟩
          · exact wideAt_drewN (wideAt_set_n hr.out.1 m) _
          · rw [← hr.out.2.1]; simp only [trimN, if_pos hw]
          · exact (hr.out.2.2.setCell _ (.inl rfl) _).drewN _
      · have h2 := wideAt_w hr.out.1 m (by show m < x.ws.length; omega)
        have ht : trimN x.ws x.n = m + 1 := by rw [← hr.out.2.1]; simp only [trimN, if_neg hw]
        have Ht := Lib.hid ht
        clear ht
        generalize x.ws.getD m 0 = v at h2 hw
        have hb : (v == 0) = false := beq_eq_false_iff_ne.2 hw
        clear hw
        go_wp2
        go_quiet (fail)
        go_wp2
        go_ret
        refine ⟨rfl, ?_, ?_⟩
        · rw [Ht.out]
          exact hr.out.1
        · exact hr.out.2.2.drewN _
end Go.Proofs.YtdkfebfedfemaaaGreatDoor
set_option linter.unusedVariables false
set_option linter.unusedSimpArgs false
namespace Go.Proofs.YtdkfebfedfemaaaGreatDoor
open Go.RowKit Go.Mlab

def CarryPost (b : Nat) (x y : Wide) (factor : Int) (up : Nat) (w : World) (e : Ending) (w' : World) : Prop :=
  e = .returned (.tuple #[]) ∧ ∃ z : Wide, WideAt w' b z ∧ WideOk z ∧ z.less = x.less ∧ z.m = x.m + factor * (BB up * y.m) ∧ Ch (· = b) w w'

theorem carry_end {w wr : World} {b : Nat} {less : Bool} {n i up ny : Nat} {ws w0 ys : List Int} {factor rest r q m : Int} (h : Carry w0 ys factor up ny i rest n ws ∧ WideAt wr b ⟨less, n, ws⟩ ∧ Ch (· = b) w wr)
    (hc : Carry w0 ys factor up ny (i + 1) r (max n (i + up + 1)) (ws.set (i + up) q)) (hm : m = ((max n (i + up + 1) : Nat) : Int)) :
    Hid (Carry w0 ys factor up ny (i + 1) r (max n (i + up + 1)) (ws.set (i + up) q) ∧
      WideAt ((wr.setCell ⟨b, 2 + (i + up), none⟩ (.int .i64 q)).setCell ⟨b, 1, none⟩ (.int .i64 m)) b ⟨less, max n (i + up + 1), ws.set (i + up) q⟩ ∧
      Ch (· = b) w ((wr.setCell ⟨b, 2 + (i + up), none⟩ (.int .i64 q)).setCell ⟨b, 1, none⟩ (.int .i64 m))) :=
  ⟨hc, by rw [hm]; exact wideAt_set_n (wideAt_set_w h.2.1 (i + up) q) _, (h.2.2.setCell _ (.inl rfl) _).setCell _ (.inl rfl) _⟩

set_option maxHeartbeats 1000000 in
theorem carry_calls (b c : Nat) (x y : Wide) (factor : Int) (up : Nat) (w : World) (hbc : b ≠ c) (hx : WideAt w b x) (hy : WideAt w c y) (lx : Loose x) (ly : Loose y)
    (hup : y.n + up ≤ 232) (hf0 : -1000000000 ≤ factor) (hf1 : factor ≤ 1000000000) (ht0 : 0 ≤ x.m + factor * (BB up * y.m)) (ht1 : x.m + factor * (BB up * y.m) < BB 232) :
    Calls Tryz.prog 169 #[.pointer (some ⟨b, 0, none⟩), .pointer (some ⟨c, 0, none⟩), .int .i64 factor, .int .i64 up] w (CarryPost b x y factor up w) := by
  have H := Lib.hid (And.intro hx (And.intro hy (And.intro lx (And.intro ly (And.intro ht0 ht1)))))
  clear hx hy lx ly ht0 ht1
  obtain ⟨ny, hny⟩ : ∃ ny, y.n = ny := ⟨_, rfl⟩
  rw [hny] at hup
  have Hny := Lib.hid hny
  clear hny
  have Hbc := Lib.hid hbc
  clear hbc
  have hup2 : up ≤ 232 := by omega
  go_enter Tryz.func169, Tryz.ntmps169
  go_wp2
  go_loopg [8, 9] (232 - up) (fun k v8 v9 wr => ∃ (i n : Nat) (rest : Int) (ws : List Int), v8 = .int .i64 rest ∧ v9 = .int .i64 i ∧ k + (i + up) = 232 ∧ Hid (Carry x.ws y.ws factor up ny i rest n ws ∧ WideAt wr b ⟨x.less, n, ws⟩ ∧ Ch (· = b) w wr))
  case atStart => exact ⟨0, x.n, 0, x.ws, rfl, rfl, by omega, ⟨Carry.start H.out.2.2.1.len H.out.2.2.1.ok H.out.2.2.1.le H.out.2.2.1.zero hup2, H.out.1, Ch.refl _ _⟩⟩
  case round =>
    obtain ⟨i, n, rest, ws, rfl, rfl, hk, hr⟩ := hrel
    have hya : WideAt wr c y := wideAt_ch H.out.2.1 hr.out.2.2 (fun e => Hbc.out e.symm)
    have y1 := wideAt_n hya
    rw [Hny.out] at y1
    have x1 := wideAt_n hr.out.2.1
    have xf := wideAt_frozen hr.out.2.1
    have b1 := hr.out.1.lo
    have b2 := hr.out.1.hi
    have bn := hr.out.1.le
    have Hya := Lib.hid hya
    clear hya
    by_cases hi : i < ny
    · have hp : i + up < 232 := by omega
      have y2 := wideAt_w Hya.out i (by rw [H.out.2.2.2.1.len]; omega)
      have x2 := wideAt_w hr.out.2.1 (i + up) (by show i + up < ws.length; rw [hr.out.1.len]; omega)
      have wy := wordsOk_get H.out.2.2.2.1.ok i
      have wx := wordsOk_get hr.out.1.ok (i + up)
      have hs := Lib.hid (fun r q => hr.out.1.step H.out.2.2.2.1.ok hf0 hf1 hp r q)
      generalize ws.getD (i + up) 0 = a at x2 wx hs
      generalize y.ws.getD i 0 = yv at y2 wy hs
      have pb := mul_bounds hf0 hf1 wy
      unfold wordOk at wx wy
      obtain ⟨p, hp'⟩ : ∃ p, factor * yv = p := ⟨_, rfl⟩
      rw [hp'] at pb
      have hm : wrap64 (factor * yv) = p := by rw [hp']; exact IntWalk.wrap64_in _ ⟨by omega, by omega⟩
      have Hp := Lib.hid hp'
      clear hp'
      obtain ⟨r0, hq, r1, r2, r3, r4⟩ := tdiv_parts (a + rest + p) (by omega) (by omega)
      have hl := H.out.2.2.2.1.len
      have HL := Lib.hid hl
      clear hl
      by_cases hneg : a + rest + p - r0 * 1000000000 < 0
      · go_wp2
        all_goals
          go_roundg (gk - 1)
          case measure => omega
          case rel => exact ⟨i + 1, max n (i + up + 1), _, ws.set (i + up) _, rfl, by go_num, by omega, carry_end hr.out (hs.out _ _ (by rw [Hp.out]; omega) (by omega) (by omega) (by rw [HL.out]; omega)) (by omega)⟩
      · go_wp2
        all_goals
          go_roundg (gk - 1)
          case measure => omega
          case rel => exact ⟨i + 1, max n (i + up + 1), _, ws.set (i + up) _, rfl, by go_num, by omega, carry_end hr.out (hs.out _ _ (by rw [Hp.out]; omega) (by omega) (by omega) (by rw [HL.out]; omega)) (by omega)⟩
    · have hs := Lib.hid (hr.out.1.inside (fun j hj => H.out.2.2.2.1.zero j (by rw [Hny.out]; exact hj)) H.out.2.2.2.2.1 H.out.2.2.2.2.2 (by omega))
      have hz : y.ws.getD i 0 = 0 := H.out.2.2.2.1.zero i (by rw [Hny.out]; omega)
      by_cases h0 : rest = 0
      · subst h0
        have hfin : CarryPost b x y factor up w (.returned (.tuple #[])) = fun w' => ∃ z : Wide, WideAt w' b z ∧ WideOk z ∧ z.less = x.less ∧ z.m = x.m + factor * (BB up * y.m) ∧ Ch (· = b) w w' := by
          funext w'
          simp [CarryPost]
        have Hfin := Lib.hid hfin
        clear hs hz hfin
        have hT := trimmed_calls b ⟨x.less, n, ws⟩ wr hr.out.2.1 hr.out.1.len bn
        have HT := Lib.hid hT
        clear hT
        go_wp2_with (go_at_call 168; refine (HT.out).mono ?_; rintro e w1 ⟨rfl, h1, h2⟩; have G1 := Lib.hid (And.intro h1 h2); clear h1 h2)
        go_end0
        rw [Hfin.out]
        refine ⟨_, G1.out.1, trim_ok hr.out.1.len hr.out.1.ok bn hr.out.1.zero, rfl, ?_, hr.out.2.2.trans G1.out.2 (fun i _ h => h)⟩
        have hsum := hr.out.1.sum
        have ht := mag_take_of_zero y.ws i (fun j hj => H.out.2.2.2.1.zero j (by rw [Hny.out]; omega))
        rw [ht, Int.zero_mul, Int.add_zero] at hsum
        exact hsum
      · have hp : i + up < 232 := hs.out h0
        have x2 := wideAt_w hr.out.2.1 (i + up) (by show i + up < ws.length; rw [hr.out.1.len]; omega)
        have wx := wordsOk_get hr.out.1.ok (i + up)
        have hst := Lib.hid (fun r q => hr.out.1.step H.out.2.2.2.1.ok hf0 hf1 hp r q)
        rw [hz, Int.mul_zero] at hst
        clear hz hs
        generalize ws.getD (i + up) 0 = a at x2 wx hst
        unfold wordOk at wx
        have hb : (rest == 0) = false := beq_eq_false_iff_ne.2 h0
        have hb2 : (rest != 0) = true := bne_iff_ne.2 h0
        clear h0
        have hl := H.out.2.2.2.1.len
        have HL := Lib.hid hl
        clear hl
        obtain ⟨r0, hq, r1, r2, r3, r4⟩ := tdiv_parts (a + rest) (by omega) (by omega)
        by_cases hneg : a + rest - r0 * 1000000000 < 0
        all_goals
          go_wp2
          all_goals
            go_roundg (gk - 1)
            case measure => omega
            case rel => exact ⟨i + 1, max n (i + up + 1), _, ws.set (i + up) _, rfl, by go_num, by omega, carry_end hr.out (hst.out _ _ (by omega) (by omega) (by omega) (by rw [HL.out]; omega)) (by omega)⟩
end Go.Proofs.YtdkfebfedfemaaaGreatDoor
set_option linter.unusedVariables false
set_option linter.unusedSimpArgs false
namespace Go.Proofs.YtdkfebfedfemaaaGreatDoor
open Go.RowKit Go.Mlab

def zeroW : List Int := List.replicate 232 0
theorem zeroW_len : zeroW.length = 232 := List.length_replicate
theorem zeroW_ok : wordsOk zeroW := fun a ha => by rw [List.eq_of_mem_replicate ha]; exact ⟨by decide, by decide⟩
theorem zeroW_at (i : Nat) : zeroW.getD i 0 = 0 := by
  unfold zeroW
  rw [List.getD_eq_getElem?_getD, List.getElem?_replicate]
  split <;> rfl
theorem zeroW_m (less : Bool) (n : Nat) : (Wide.mk less n zeroW).m = 0 := mag_zeros 232
/-- A new wide integer, of which the sign alone is given. -/
def newArr (v : Bool) : Array Value := (wideCells ⟨v, 0, zeroW⟩).toArray
set_option maxRecDepth 100000 in
theorem zero_wide (v : Bool) : Tryz.zeroCells168.setIfInBounds 0 (.bool v) = newArr v := by kernel_rfl
theorem wideAt_new (w : World) (v : Bool) : WideAt (w.alloc (.cells (Tryz.zeroCells168.setIfInBounds 0 (.bool v)) 168)) w.heap.size ⟨v, 0, zeroW⟩ := by
  rw [zero_wide]
  exact alloc_new w _
theorem wideOk_zero (v : Bool) : WideOk ⟨v, 0, zeroW⟩ := ⟨zeroW_len, zeroW_ok, Nat.zero_le _, fun i _ => zeroW_at i, fun h => absurd rfl h⟩

/-- What the product's loop keeps. -/
theorem times_sum {x y : Wide} (lx : WideOk x) (ly : WideOk y) {i : Nat} (hi : i < y.n) (hs : x.n + y.n ≤ 230) {z : Wide} (hz : z.m = x.m * mag (y.ws.take i)) :
    z.m + y.ws.getD i 0 * (BB i * x.m) = x.m * mag (y.ws.take (i + 1)) ∧ 0 ≤ x.m * mag (y.ws.take (i + 1)) ∧ x.m * mag (y.ws.take (i + 1)) < BB 232 := by
  have e := mag_take_succ y.ws i (by rw [ly.len]; have := ly.le; omega)
  have h0 : 0 ≤ mag (y.ws.take (i + 1)) := mag_nonneg (fun a ha => ly.ok a (List.mem_of_mem_take ha))
  have h1 : mag (y.ws.take (i + 1)) < BB (i + 1) := by
    have := mag_lt (ws := y.ws.take (i + 1)) (fun a ha => ly.ok a (List.mem_of_mem_take ha))
    rw [List.length_take, ly.len, Nat.min_eq_left (by have := ly.le; omega)] at this
    exact this
  refine ⟨?_, Int.mul_nonneg lx.nonneg h0, ?_⟩
  · rw [hz, e]; grind
  · have h2 : x.m * mag (y.ws.take (i + 1)) ≤ BB x.n * mag (y.ws.take (i + 1)) := Int.mul_le_mul_of_nonneg_right (Int.le_of_lt lx.lt) h0
    have h3 : BB x.n * mag (y.ws.take (i + 1)) < BB x.n * BB (i + 1) := Int.mul_lt_mul_of_pos_left h1 (BB_pos _)
    rw [← BB_add] at h3
    have h4 := BB_mono (show x.n + (i + 1) ≤ 232 by omega)
    omega

def NewWide (w : World) (v : Int) (e : Ending) (w' : World) : Prop :=
  ∃ d z, e = .returned (.pointer (some ⟨d, 0, none⟩)) ∧ w.heap.size ≤ d ∧ WideAt w' d z ∧ WideOk z ∧ z.z = v ∧ Below w.heap.size w w'

set_option maxRecDepth 100000 in
set_option maxHeartbeats 400000 in
theorem times_calls (b c : Nat) (x y : Wide) (w : World) (hx : WideAt w b x) (hy : WideAt w c y) (lx : WideOk x) (ly : WideOk y) (hs : x.n + y.n ≤ 230) :
    Calls Tryz.prog 143 #[.pointer (some ⟨b, 0, none⟩), .pointer (some ⟨c, 0, none⟩)] w (NewWide w (x.z * y.z)) := by
  have x0 := wideAt_less hx
  have y0 := wideAt_less hy
  have y1 := wideAt_n hy
  have bl := wideAt_lt hx
  have cl := wideAt_lt hy
  obtain ⟨p, hp⟩ : ∃ p, x.less = p := ⟨_, rfl⟩
  obtain ⟨q, hq⟩ : ∃ q, y.less = q := ⟨_, rfl⟩
  rw [hp] at x0
  rw [hq] at y0
  have Hp := Lib.hid hp
  have Hq := Lib.hid hq
  have HX := Lib.hid (And.intro hx (And.intro hy (And.intro lx (And.intro ly hs))))
  clear hp hq hx hy lx ly
  obtain ⟨v, hv⟩ : ∃ v, (p != q) = v := ⟨_, rfl⟩
  obtain ⟨ny, hny⟩ : ∃ ny, y.n = ny := ⟨_, rfl⟩
  rw [hny] at y1 hs
  have Hny := Lib.hid hny
  clear hny
  go_enter Tryz.func143, Tryz.ntmps143
  go_wp2
  go_still_tail 9, (by kernel_rfl)
  change wpList _ _ _ _ _ w.drew
  go_wp2
  go_loopg [22] ny (fun k v22 wr => ∃ (i : Nat) (z : Wide), v22 = .int .i64 i ∧ k + i = ny ∧ Hid (WideAt wr w.heap.size z ∧ WideOk z ∧ z.less = (!p == q) ∧ z.m = x.m * mag (y.ws.take i) ∧ Below w.heap.size w wr ∧ w.heap.size < wr.heap.size))
  case atStart =>
    refine ⟨0, _, rfl, by omega, ⟨wideAt_drew (wideAt_new w _), wideOk_zero _, rfl, ?_, ((Below.refl _ _).alloc (Nat.le_refl _) _).drew, by simp⟩⟩
    rw [zeroW_m, List.take_zero, mag_nil, Int.mul_zero]
  case round =>
    obtain ⟨i, z, rfl, hk, hr⟩ := hrel
    by_cases hi : i < ny
    · have hin : i < y.n := by rw [Hny.out]; exact hi
      have y2 := wideAt_w HX.out.2.1 i (by rw [HX.out.2.2.2.1.len]; have := HX.out.2.2.2.1.le; omega)
      have wy := wordsOk_get HX.out.2.2.2.1.ok i
      have hsum := times_sum HX.out.2.2.1 HX.out.2.2.2.1 hin HX.out.2.2.2.2 hr.out.2.2.2.1
      have y3 : wr.cell? ⟨c, 2 + i, none⟩ = some (.int .i64 (y.ws.getD i 0)) := (hr.out.2.2.2.2.1.cell (p := ⟨c, 2 + i, none⟩) cl).trans y2
      have hT := carry_calls w.heap.size b z x (y.ws.getD i 0) i wr (by omega) hr.out.1 (wideAt_below HX.out.1 hr.out.2.2.2.2.1) hr.out.2.1.loose HX.out.2.2.1.loose (by omega) (by unfold wordOk at wy; omega) (by unfold wordOk at wy; omega) (by rw [hsum.1]; exact hsum.2.1) (by rw [hsum.1]; exact hsum.2.2)
      have HT := Lib.hid (And.intro hT hsum.1)
      clear hT hsum y2 wy hin
      generalize hyv : y.ws.getD i 0 = yv at y3 HT
      clear hyv
      go_wp2_with (go_at_call 169; refine (HT.out.1).mono ?_; rintro e w1 ⟨rfl, z1, h1, h2, h3, h4, h5⟩; have G1 := Lib.hid (And.intro h1 (And.intro h2 (And.intro h3 (And.intro h4 h5)))); clear h1 h2 h3 h4 h5)
      go_roundg (gk - 1)
      case measure => omega
      case rel =>
        refine ⟨i + 1, z1, by go_num, by omega, ⟨G1.out.1, G1.out.2.1, G1.out.2.2.1.trans hr.out.2.2.1, ?_, ?_, ?_⟩⟩
        · rw [G1.out.2.2.2.1]; exact HT.out.2
        · exact below_ch hr.out.2.2.2.2.1 (Nat.le_of_lt hr.out.2.2.2.2.2) G1.out.2.2.2.2 (fun i hi => by omega)
        · exact Nat.lt_of_lt_of_le hr.out.2.2.2.2.2 G1.out.2.2.2.2.size
    · have e1 : mag (y.ws.take i) = y.m := by
        rw [show i = y.n by rw [Hny.out]; omega]
        exact HX.out.2.2.2.1.m_take
      have ez : z.z = x.z * y.z := by
        unfold Wide.z
        rw [hr.out.2.2.1, hr.out.2.2.2.1, e1, Hp.out, Hq.out]
        cases p <;> cases q <;> simp [Int.neg_mul, Int.mul_neg]
      have HE := Lib.hid ez
      clear e1 ez
      have hfin := Lib.hid (show NewWide w (x.z * y.z) (.returned (.pointer (some ⟨w.heap.size, 0, none⟩))) wr from ⟨_, z, rfl, Nat.le_refl _, hr.out.1, hr.out.2.1, HE.out, hr.out.2.2.2.2.1⟩)
      go_wp2
      go_ret
      exact hfin.out
end Go.Proofs.YtdkfebfedfemaaaGreatDoor
