/- The memory of a wide integer: one block of 234 cells; what holds of it across stores, new blocks and draws. -/
import Derived.Test.YtdkfebfedfemaaaGreatDoorM4
import Derived.Test.YtdkfebfedfemaaaGreatDoorProg
import Derived.WalkKit
import Derived.Laws.Rows
import Derived.Laws.NewBlocks
import Derived.Laws.AppendOwn
import Derived.Below
import Derived.Deep.Draws
import Derived.Lib.Hide
set_option linter.unusedVariables false
set_option linter.unusedSimpArgs false
namespace Go.Proofs.YtdkfebfedfemaaaGreatDoor
open Go.RowKit Go.Mlab

theorem alloc_old (w : World) (o : Obj) (i : Nat) (h : i < w.heap.size) : (w.alloc o).heap[i]? = w.heap[i]? := by
  show (w.heap.push o)[i]? = w.heap[i]?
  rw [Array.getElem?_push, if_neg (Nat.ne_of_lt h)]
theorem alloc_new (w : World) (o : Obj) : (w.alloc o).heap[w.heap.size]? = some o := by
  show (w.heap.push o)[w.heap.size]? = some o
  simp
/-- Nothing that was there has changed but the blocks that S names. -/
structure Ch (S : Nat → Prop) (w w' : World) : Prop where
  os : w'.os = w.os
  tape : w'.tape = w.tape
  output : w'.output = w.output
  size : w.heap.size ≤ w'.heap.size
  block : ∀ k, k < w.heap.size → ¬ S k → w'.heap[k]? = w.heap[k]?
namespace Ch
variable {S T : Nat → Prop} {w w1 w2 : World}
theorem refl (S : Nat → Prop) (w : World) : Ch S w w := ⟨rfl, rfl, rfl, Nat.le_refl _, fun _ _ _ => rfl⟩
theorem trans (h : Ch S w w1) (k : Ch T w1 w2) (hT : ∀ i, i < w.heap.size → T i → S i) : Ch S w w2 :=
  ⟨k.os.trans h.os, k.tape.trans h.tape, k.output.trans h.output, Nat.le_trans h.size k.size, fun i hi hs => (k.block i (Nat.lt_of_lt_of_le hi h.size) (fun ht => hs (hT i hi ht))).trans (h.block i hi hs)⟩
theorem mono (h : Ch S w w1) (hT : ∀ i, i < w.heap.size → S i → T i) : Ch T w w1 := ⟨h.os, h.tape, h.output, h.size, fun i hi hs => h.block i hi (fun hh => hs (hT i hi hh))⟩
theorem alloc (h : Ch S w w1) (o : Obj) : Ch S w (w1.alloc o) :=
  ⟨h.os, h.tape, h.output, by simp; have := h.size; omega, fun i hi hs => (alloc_old w1 o i (Nat.lt_of_lt_of_le hi h.size)).trans (h.block i hi hs)⟩
theorem setCell (h : Ch S w w1) (p : Addr) (hp : S p.block ∨ w.heap.size ≤ p.block) (v : Value) : Ch S w (w1.setCell p v) :=
  ⟨h.os, h.tape, h.output, by simp; exact h.size, fun i hi hs => (heap_setCell_other w1 p i v (by rintro rfl; rcases hp with hp | hp; exact hs hp; omega)).trans (h.block i hi hs)⟩
theorem drew (h : Ch S w w1) : Ch S w w1.drew := ⟨h.os, h.tape, h.output, h.size, h.block⟩
theorem drewN (h : Ch S w w1) (n : Nat) : Ch S w (w1.drewN n) := ⟨h.os, h.tape, h.output, h.size, h.block⟩
theorem of_below (h : Below w.heap.size w w1) : Ch S w w1 := ⟨h.os, h.tape, h.output, h.size, fun i hi _ => h.block i hi⟩
theorem below (h : Ch S w w1) (B : Nat) (hB : B ≤ w.heap.size) (hS : ∀ i, S i → B ≤ i) : Below B w w1 :=
  ⟨h.os, h.tape, h.output, h.size, fun i hi => h.block i (by omega) (fun hs => by have := hS i hs; omega)⟩
end Ch
/-- Below B, one world behind another, which a call has changed at new blocks alone. -/
theorem below_ch {S : Nat → Prop} {B : Nat} {w0 w w1 : World} (h : Below B w0 w) (hB : B ≤ w.heap.size) (k : Ch S w w1) (hS : ∀ i, S i → B ≤ i) : Below B w0 w1 := h.trans (k.below B hB hS)
theorem below_below {B : Nat} {w0 w w1 : World} (h : Below B w0 w) (hB : B ≤ w.heap.size) (k : Below w.heap.size w w1) : Below B w0 w1 := h.trans ⟨k.os, k.tape, k.output, k.size, fun i hi => k.block i (by omega)⟩

/-- The cells of a wide integer. -/
def wideCells (x : Wide) : List Value := .bool x.less :: .int .i64 x.n :: x.ws.map (Value.int .i64)
def WideAt (w : World) (b : Nat) (x : Wide) : Prop := w.heap[b]? = some (.cells (wideCells x).toArray 168 (0, 0))
theorem wideAt_lt {w : World} {b : Nat} {x : Wide} (h : WideAt w b x) : b < w.heap.size := (Array.getElem?_eq_some_iff.1 h).1
theorem wideAt_cell {w : World} {b : Nat} {x : Wide} (h : WideAt w b x) (j : Nat) : w.cell? ⟨b, j, none⟩ = (wideCells x)[j]? := by
  rw [cell_of_row w b j _ _ _ h]; simp
theorem wideAt_less {w : World} {b : Nat} {x : Wide} (h : WideAt w b x) : w.cell? ⟨b, 0, none⟩ = some (.bool x.less) := by rw [wideAt_cell h]; rfl
theorem wideAt_n {w : World} {b : Nat} {x : Wide} (h : WideAt w b x) : w.cell? ⟨b, 1, none⟩ = some (.int .i64 x.n) := by rw [wideAt_cell h]; rfl
theorem wideAt_w {w : World} {b : Nat} {x : Wide} (h : WideAt w b x) (i : Nat) (hi : i < x.ws.length) : w.cell? ⟨b, 2 + i, none⟩ = some (.int .i64 (x.ws.getD i 0)) := by
  rw [wideAt_cell h, Nat.add_comm 2 i]
  show (x.ws.map (Value.int .i64))[i]? = _
  rw [List.getElem?_map, List.getD_eq_getElem?_getD, List.getElem?_eq_getElem hi]; rfl
theorem wideAt_frozen {w : World} {b : Nat} {x : Wide} (h : WideAt w b x) (j : Nat) : w.frozen? ⟨b, j, none⟩ = false := by
  unfold World.frozen?; unfold WideAt at h; rw [h]; simp
theorem wideAt_ch {S : Nat → Prop} {w w1 : World} {b : Nat} {x : Wide} (h : WideAt w b x) (k : Ch S w w1) (hb : ¬ S b) : WideAt w1 b x := (k.block b (wideAt_lt h) hb).trans h
theorem wideAt_below {w w1 : World} {b : Nat} {x : Wide} (h : WideAt w b x) (k : Below w.heap.size w w1) : WideAt w1 b x := (k.block b (wideAt_lt h)).trans h
theorem wideAt_alloc {w : World} {b : Nat} {x : Wide} (h : WideAt w b x) (o : Obj) : WideAt (w.alloc o) b x := (alloc_old w o b (wideAt_lt h)).trans h
theorem wideAt_drewN {w : World} {b : Nat} {x : Wide} (h : WideAt w b x) (n : Nat) : WideAt (w.drewN n) b x := h
theorem wideAt_drew {w : World} {b : Nat} {x : Wide} (h : WideAt w b x) : WideAt w.drew b x := h
theorem wideAt_far {w : World} {b : Nat} {x : Wide} (h : WideAt w b x) (p : Addr) (hp : b ≠ p.block) (v : Value) : WideAt (w.setCell p v) b x := (heap_setCell_other w p b v hp).trans h
theorem wideAt_set {w : World} {b : Nat} {x : Wide} (h : WideAt w b x) (j : Nat) (v : Value) {y : Wide} (e : (wideCells x).set j v = wideCells y) : WideAt (w.setCell ⟨b, j, none⟩ v) b y := by
  unfold WideAt
  rw [heap_setCell_same w b j _ _ v h, ← e]; simp
theorem wideAt_set_n {w : World} {b : Nat} {x : Wide} (h : WideAt w b x) (m : Nat) : WideAt (w.setCell ⟨b, 1, none⟩ (.int .i64 m)) b { x with n := m } := wideAt_set h 1 _ rfl
theorem wideAt_set_less {w : World} {b : Nat} {x : Wide} (h : WideAt w b x) (m : Bool) : WideAt (w.setCell ⟨b, 0, none⟩ (.bool m)) b { x with less := m } := wideAt_set h 0 _ rfl
theorem wideAt_set_w {w : World} {b : Nat} {x : Wide} (h : WideAt w b x) (i : Nat) (v : Int) : WideAt (w.setCell ⟨b, 2 + i, none⟩ (.int .i64 v)) b { x with ws := x.ws.set i v } := by
  refine wideAt_set h (2 + i) _ ?_
  rw [Nat.add_comm 2 i]
  show Value.bool x.less :: .int .i64 x.n :: (x.ws.map (Value.int .i64)).set i (.int .i64 v) = _
  rw [← List.map_set]; rfl
end Go.Proofs.YtdkfebfedfemaaaGreatDoor
