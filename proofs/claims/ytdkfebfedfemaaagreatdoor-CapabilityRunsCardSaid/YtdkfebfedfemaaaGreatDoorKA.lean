/- slices.Chunk over ints. -/
import Derived.Test.YtdkfebfedfemaaaGreatDoorK9
import Derived.Test.YtdkfebfedfemaaaGreatDoorSt
import Derived.Sort.QuietIn
set_option linter.unusedVariables false
set_option linter.unusedSimpArgs false
namespace Go.Proofs.YtdkfebfedfemaaaGreatDoor
open Go.RowKit Go.Mlab Go.Shelf
attribute [local go_sem] Oper.semAt_some

/-- What a round of Chunk's loop keeps: all that lay, but one block. -/
def KpB (n0 Bo : Nat) (W W' : World) : Prop := ∀ k, k < n0 → k ≠ Bo → W'.heap[k]? = W.heap[k]?
theorem KpB.refl {n0 Bo : Nat} (W : World) : KpB n0 Bo W W := fun _ _ _ => rfl
theorem KpB.trans {n0 Bo : Nat} {A B C : World} (h : KpB n0 Bo A B) (k : KpB n0 Bo B C) : KpB n0 Bo A C := fun i h1 h2 => (k i h1 h2).trans (h i h1 h2)
theorem kpB_b {n0 Bo : Nat} {w : World} (hn : n0 ≤ w.heap.size) (W : World) (l : Nat) (o o' : Obj) (hl : w.heap.size ≤ l) (_ : W.heap[l]? = some o) (_ : o.isCells = false) (_ : o.isWalk = false) : KpB n0 Bo W (W.putObj l o') := fun k hk _ => World.putObj_heap_other (by omega)
theorem KpB.cell {n0 Bo : Nat} {W W' : World} (h : KpB n0 Bo W W') {b i : Nat} (hb : b < n0) (hne : b ≠ Bo) : W'.cell? ⟨b, i, none⟩ = W.cell? ⟨b, i, none⟩ := by
  simp only [World.cell?]; rw [h b hb hne]
/-- A group of a slice, as a value. -/
def clq (q x : Nat) : Nat := if x < q then x else 0
theorem clq_lt {q x : Nat} (h : 1 ≤ q) : clq q x < q := by unfold clq; split <;> omega
theorem clq_eq {q x : Nat} (h : x < q) : clq q x = x := by unfold clq; rw [if_pos h]
def chunkV (b o g q : Nat) (x : Nat) : Value := .slice (some ⟨b, o + clq q x * g, none⟩) g g
theorem grownBy_drewN (w : World) (n : Nat) (row : Option Nat) : w.grownBy (w.drewN n) row := ⟨rfl, rfl, rfl, Nat.le_refl _, fun _ _ _ => rfl⟩
set_option maxRecDepth 100000 in
set_option maxHeartbeats 4000000 in
theorem chunk1_in (n : Nat) (hn : 1 ≤ n) (l Bs Bg n0 Bo b o cap q g m : Nat) (hm : q * g = m) (hcap : m ≤ cap) (hbig : m ≤ 1000000) (hg : 2 ≤ g) (hg2 : g ≤ 256) (J Jx : List Nat → World → Prop)
    (W : World) (hJ : AbidesFrom W.heap.size J)
    (hY : ∀ pre x W, J pre W → pre.length < q → YieldAt Fence.wide (n - 1) Tryz.prog l #[chunkV b o g q x] W fun e W' =>
      (e = .returned (.bool true) ∧ J (pre ++ [x]) W' ∧ KpB n0 Bo W W') ∨ (e = .returned (.bool false) ∧ Jx (pre ++ [x]) W'))
    (hBs : Bs < n0 ∧ Bs ≠ Bo) (hBg : Bg < n0 ∧ Bg ≠ Bo) (hs : W.cell? ⟨Bs, 0, none⟩ = some (.slice (some ⟨b, o, none⟩) m cap)) (hgc : W.cell? ⟨Bg, 0, none⟩ = some (.int .i64 g)) (h0 : J [] W) :
    CallsIn Fence.wide n Tryz.prog 97 #[.func (.yield l) #[] #[], .pointer (some ⟨Bs, 0, none⟩), .pointer (some ⟨Bg, 0, none⟩)] W fun e W' => (∃ v, e = .returned v) ∧
      ((∃ ys, ys = List.range q ∧ J ys W') ∨ (∃ pre : List Nat, True ∧ Jx pre W')) := by
  have Hm := Lib.hid hm
  have HC := Lib.hid (And.intro hs hgc)
  clear hm hs hgc
  refine callsIn_of_wp Tryz.func97 rfl trivial ?_ rfl
  simp only [Tryz.ntmps97, List.size_toArray, List.length_cons, List.length_nil, Nat.reduceAdd, Nat.reduceSub, Array.replicate_succ, Array.replicate_zero, List.push_toArray, List.append_toArray, List.nil_append, List.cons_append]
  gi_wp2
  gi_loopw [4] (fun v4 wr => ∃ k i : Nat, k ≤ q ∧ Hid (k * g = i) ∧ v4 = .int .i64 i ∧ J (List.range k) wr ∧ KpB n0 Bo W wr)
    (fun v4 _ => m - (intOf v4).toNat)
  case atStart => exact ⟨0, 0, Nat.zero_le _, Lib.hid (by omega), rfl, h0, KpB.refl _⟩
  case round =>
    obtain ⟨k, i, hk, Hi, rfl, hJs, hnx⟩ := hrel
    have hs := (hnx.cell (i := 0) hBs.1 hBs.2).trans HC.out.1
    have hgc := (hnx.cell (i := 0) hBg.1 hBg.2).trans HC.out.2
    by_cases hlt : k < q
    · have hi1 : i + g ≤ m := by
        have h1 := Hi.out; have h2 := Hm.out
        have : (k + 1) * g ≤ q * g := Nat.mul_le_mul_right _ hlt
        rw [Nat.add_mul, Nat.one_mul] at this; omega
      have hi2 : (i : Int) + g ≤ m := by omega
      have hi3 : (i : Int) < m := by omega
      have hmin : min (g : Int) ((m - i : Nat) : Int) = (g : Int) := by omega
      gi_wp2
      gi_quiet (fail)
      have hJd : J (List.range k) (wr.drewN nq) := hJ _ wr (wr.drewN nq) none hJs (grownBy_drewN wr nq none) (fun r e => by cases e)
      obtain ⟨fn, tmps, assign, body, hy, hR⟩ := hY (List.range k) k (wr.drewN nq) hJd (by rw [List.length_range]; exact hlt)
      unfold chunkV at hy
      have hki : o + clq q k * g = o + i := by rw [clq_eq hlt, Hi.out]
      rw [hki] at hy
      clear hki
      have z1 : i + g - i = g := by omega
      gi_wp2
      refine hR.mono ?_
      rintro e W3 (⟨rfl, hJ3, hk3⟩ | ⟨rfl, hJx3⟩)
      · have hgc3 := (hk3.cell (i := 0) hBg.1 hBg.2).trans (show (wr.drewN nq).cell? ⟨Bg, 0, none⟩ = _ from hgc)
        gi_wp2
        go_roundw
        case rel => exact ⟨k + 1, i + g, by omega, Lib.hid (by rw [Nat.add_mul, Nat.one_mul, Hi.out]), by go_num, by rw [List.range_succ]; exact hJ3, hnx.trans (KpB.trans (B := wr.drewN nq) (fun _ _ _ => rfl) hk3)⟩
        case measure => simp [intOf]; omega
      · gi_wp2
        refine bodyPost_ret (results_none rfl _ _ _) rfl ?_
        exact ⟨⟨_, rfl⟩, .inr ⟨_, trivial, hJx3⟩⟩
    · obtain rfl : k = q := by omega
      obtain rfl : i = m := Hi.out.symm.trans Hm.out
      gi_wp2
      go_end0
      exact ⟨⟨_, rfl⟩, .inl ⟨_, rfl, hJs⟩⟩
/-- The world in which Chunk has laid its two variables. -/
def chunkW (A : Option Addr) (m cap : Nat) (g : Int) (w : World) : World := (w.alloc (.cells #[.slice A m cap] 22)).alloc (.cells #[.int .i64 g] 3)
theorem chunkW_size (A : Option Addr) (m cap : Nat) (g : Int) (w : World) : (chunkW A m cap g w).heap.size = w.heap.size + 2 := by unfold chunkW; simp
theorem chunkW_below (A : Option Addr) (m cap : Nat) (g : Int) (w : World) : Below w.heap.size w (chunkW A m cap g w) := ((Below.refl _ w).alloc (Nat.le_refl _) _).alloc (by simp) _
theorem chunkW_cells (A : Option Addr) (m cap : Nat) (g : Int) (w : World) : (chunkW A m cap g w).cell? ⟨w.heap.size, 0, none⟩ = some (.slice A m cap) ∧ (chunkW A m cap g w).cell? ⟨w.heap.size + 1, 0, none⟩ = some (.int .i64 g) := by
  have h1 := alloc_new w (.cells #[.slice A m cap] 22)
  have h2 := alloc_new (w.alloc (.cells #[.slice A m cap] 22)) (.cells #[.int .i64 g] 3)
  rw [World.size_alloc] at h2
  have h3 := (Below.heap_alloc (w.alloc (.cells #[.slice A m cap] 22)) (.cells #[.int .i64 g] 3) w.heap.size (by simp)).trans h1
  refine ⟨?_, ?_⟩
  · unfold chunkW; rw [cell_of_row _ _ _ _ _ _ h3]; rfl
  · unfold chunkW; rw [cell_of_row _ _ _ _ _ _ h2]; rfl
theorem chunk_calls (A : Option Addr) (m cap : Nat) (g : Int) (hg : 2 ≤ g) (w : World) :
    Calls Tryz.prog 65 #[.slice A m cap, .int .i64 g] w fun e w' => e = .returned (.func (.func 97) #[] #[.pointer (some ⟨w.heap.size, 0, none⟩), .pointer (some ⟨w.heap.size + 1, 0, none⟩)]) ∧ chunkW A m cap g w = w' := by
  unfold chunkW
  have hg1 : 1 ≤ g := by omega
  go_enter Tryz.func65, Tryz.ntmps65
  go_wp2
  go_ret
  exact ⟨rfl, rfl⟩
theorem enters97 : ∀ args w, (callFunc 97 args).run Tryz.prog w = .ok (.enter 97 args) w := enters_of Tryz.func97 (by kernel_rfl) rfl
theorem chunk_seq (b o cap q g m Bo : Nat) (hm : q * g = m) (hcap : m ≤ cap) (hbig : m ≤ 1000000) (hg : 2 ≤ g) (hg2 : g ≤ 256) (w : World) (hBo : Bo < w.heap.size) :
    SeqStopsK Fence.wide 2 Tryz.prog 97 #[.pointer (some ⟨w.heap.size, 0, none⟩), .pointer (some ⟨w.heap.size + 1, 0, none⟩)] (fun x : Nat => #[chunkV b o g q x]) (KpB (w.heap.size + 2) Bo) (fun ys => ys = List.range q) (fun _ => True) q (chunkW (some ⟨b, o, none⟩) m cap g w) := fun l J Jx W hW hJ _ hY h0 => by
  have hs := chunkW_size (some ⟨b, o, none⟩) m cap g w
  have hc := chunkW_cells (some ⟨b, o, none⟩) m cap g w
  generalize chunkW (some ⟨b, o, none⟩) m cap g w = w1 at *
  have h0' : w.heap.size < w1.heap.size := by omega
  have h1' : w.heap.size + 1 < w1.heap.size := by omega
  exact chunk1_in 2 (by omega) l w.heap.size (w.heap.size + 1) (w.heap.size + 2) Bo b o cap q g m hm hcap hbig hg hg2 J Jx W hJ hY (by omega) (by omega) ((hW.cell (p := ⟨w.heap.size, 0, none⟩) h0').trans hc.1) ((hW.cell (p := ⟨w.heap.size + 1, 0, none⟩) h1').trans hc.2) h0
end Go.Proofs.YtdkfebfedfemaaaGreatDoor
