/- slices.Values, AppendSeq, Collect, Sorted over ints. -/
import Derived.Test.YtdkfebfedfemaaaGreatDoorK6
import Derived.RangeFuncNested
import Derived.RangeFuncBound
import Derived.RangeFuncCalls
import Derived.RangeFuncLeaves
import Derived.RangeFuncBox
import Derived.Shelf.Abstract
import Derived.Shelf.RegionOpen
import Derived.WalkKit
import Derived.OwnWalkIn
import Derived.TacticsInMore
import Derived.LoopNIn
import Derived.LoopIn
import Derived.Maps.AppendAt
import Derived.Lib.SlKeysI
set_option linter.unusedVariables false
set_option linter.unusedSimpArgs false
namespace Go.Proofs.YtdkfebfedfemaaaGreatDoor
open Go.RowKit Go.Mlab Go.Shelf
attribute [local go_sem] Oper.semAt_some

/-- What an iterator over ints gives: all of a list that S holds of, or a part of one. -/
def SeqI (g : Nat) (lb : Array Value) (n0 : Nat) (S : List Int → Prop) (N : Nat) (w : World) : Prop :=
  SeqStopsK Fence.wide 2 Tryz.prog g lb (fun x : Int => #[Value.int .i64 x]) (Below n0) S (fun _ => True) N w
/-- Ints behind an address, below a block. -/
def IntsIn (n0 : Nat) (W : World) (A : Option Addr) (xs : List Int) : Prop :=
  xs = [] ∨ ∃ b o, A = some ⟨b, o, none⟩ ∧ b < n0 ∧ ∀ j, j < xs.length → W.cell? ⟨b, o + j, none⟩ = some (.int .i64 (xs[j]?.getD 0))
theorem intsIn_of {w : World} {A : Option Addr} {c : Nat} {xs : List Int} (h : IntsAt w A c xs) : IntsIn w.heap.size w A xs :=
  h.at_.imp id (fun ⟨b, o, e, hb, hc⟩ => ⟨b, o, e, hb, fun j hj => by rw [hc j hj, List.getD_eq_getElem?_getD]⟩)
theorem IntsIn.below {n0 : Nat} {W W' : World} {A : Option Addr} {xs : List Int} (h : IntsIn n0 W A xs) (k : Below n0 W W') : IntsIn n0 W' A xs :=
  h.imp id (fun ⟨b, o, e, hb, hc⟩ => ⟨b, o, e, hb, fun j hj => (k.cell (p := ⟨b, o + j, none⟩) hb).trans (hc j hj)⟩)
theorem IntsIn.get {n0 : Nat} {W : World} {A : Option Addr} {xs : List Int} (h : IntsIn n0 W A xs) {i : Nat} (hi : i < xs.length) : ∃ b o, A = some ⟨b, o, none⟩ ∧ b < n0 ∧ W.cell? ⟨b, o + i, none⟩ = some (.int .i64 (xs[i]?.getD 0)) := by
  rcases h with h | ⟨b, o, e, hb, hc⟩
  · rw [h] at hi; simp at hi
  · exact ⟨b, o, e, hb, hc i hi⟩
theorem take_snoc' {xs : List Int} {k : Nat} (hk : k < xs.length) : xs.take (k + 1) = xs.take k ++ [xs[k]?.getD 0] := by
  rw [List.take_succ_eq_append_getElem hk, List.getElem?_eq_getElem hk]; rfl

set_option maxRecDepth 100000 in
set_option maxHeartbeats 2000000 in
theorem values1_in (n : Nat) (hn : 1 ≤ n) (l Bs n0 : Nat) (A : Option Addr) (cap len : Nat) (xs : List Int) (hlen : xs.length = len) (hbig : len ≤ 4611686018427387904) (J Jx : List Int → World → Prop)
    (hY : ∀ pre x W, J pre W → pre.length < len → YieldAt Fence.wide (n - 1) Tryz.prog l #[.int .i64 x] W fun e W' =>
      (e = .returned (.bool true) ∧ J (pre ++ [x]) W' ∧ Below n0 W W') ∨ (e = .returned (.bool false) ∧ Jx (pre ++ [x]) W'))
    (W : World) (hBs : W.cell? ⟨Bs, 0, none⟩ = some (.slice A len cap)) (hI : IntsIn n0 W A xs) (h0 : J [] W) :
    CallsIn Fence.wide n Tryz.prog 68 #[.func (.yield l) #[] #[], .pointer (some ⟨Bs, 0, none⟩)] W fun e W' => (∃ v, e = .returned v) ∧
      ((∃ ys, ys = xs ∧ J ys W') ∨ (∃ pre : List Int, True ∧ Jx pre W')) := by
  have Hn := Lib.hid hlen
  have HI := Lib.hid hI
  clear hlen hI
  refine callsIn_of_wp Tryz.func68 rfl trivial ?_ rfl
  simp only [Tryz.ntmps68, List.size_toArray, List.length_cons, List.length_nil, Nat.reduceAdd, Nat.reduceSub, Array.replicate_succ, Array.replicate_zero, List.push_toArray, List.append_toArray, List.nil_append, List.cons_append]
  gi_wp2
  gi_loopw [7] (fun i wr => ∃ k : Nat, k ≤ len ∧ i = .int .i64 k ∧ J (xs.take k) wr ∧ Below n0 W wr)
    (fun i _ => len - (intOf i).toNat)
  case atStart => exact ⟨0, Nat.zero_le _, rfl, h0, Below.refl _ _⟩
  case round =>
    obtain ⟨k, hk, rfl, hJs, hnx⟩ := hrel
    by_cases hlt : k < len
    · obtain ⟨b, o, rfl, hb, hcx⟩ := (HI.out.below hnx).get (i := k) (by rw [Hn.out]; exact hlt)
      have HS := Lib.hid (take_snoc' (xs := xs) (k := k) (by rw [Hn.out]; exact hlt))
      obtain ⟨fn, tmps, assign, body, hy, hR⟩ := hY _ (xs[k]?.getD 0) wr hJs (by rw [List.length_take, Hn.out]; omega)
      gi_wp2
      refine hR.mono ?_
      rintro e W3 (⟨rfl, hJ3, hk3⟩ | ⟨rfl, hJx3⟩)
      · gi_wp2
        go_roundw
        case rel => exact ⟨k + 1, by omega, by simp, by rw [HS.out]; exact hJ3, hnx.trans hk3⟩
        case measure => simp [intOf]; omega
      · gi_wp2
        refine bodyPost_ret (results_none rfl _ _ _) rfl ?_
        exact ⟨⟨_, rfl⟩, .inr ⟨_, trivial, hJx3⟩⟩
    · obtain rfl : k = len := by omega
      have e : xs.take k = xs := by rw [← Hn.out, List.take_length]
      have HE := Lib.hid e
      clear e
      gi_wp2
      go_end0
      exact ⟨⟨_, rfl⟩, .inl ⟨_, rfl, by rw [HE.out] at hJs; exact hJs⟩⟩

theorem values_seq (A : Option Addr) (cap : Nat) (xs : List Int) (w w1 : World) (hx : IntsAt w A cap xs) (Bs : Nat) (hBs : Bs < w1.heap.size) (hw : Below w.heap.size w w1) (hc : w1.cell? ⟨Bs, 0, none⟩ = some (.slice A xs.length cap)) :
    SeqI 68 #[.pointer (some ⟨Bs, 0, none⟩)] w.heap.size (fun ys => ys = xs) xs.length w1 := fun l J Jx W hW _ _ hY h0 =>
  values1_in 2 (by omega) l Bs w.heap.size A cap xs.length xs rfl hx.big J Jx hY W ((hW.cell (p := ⟨Bs, 0, none⟩) hBs).trans hc) ((intsIn_of hx).below (hw.trans (hW.mono hw.size))) h0

theorem values_calls (A : Option Addr) (len cap : Nat) (w : World) :
    Calls Tryz.prog 34 #[.slice A len cap] w fun e w' => e = .returned (.func (.func 68) #[] #[.pointer (some ⟨w.heap.size, 0, none⟩)]) ∧ w.alloc (.cells #[.slice A len cap] 22) = w' := by
  go_enter Tryz.func34, Tryz.ntmps34
  go_wp2
  go_ret
  exact ⟨rfl, rfl⟩

theorem int_parts : (Tryz.prog.info? 3).map (fun i => (i.zero, i.size, i.bytes)) = some (some (.int .i64 0), 1, 8) := by kernel_rfl

/-- What a collecting function answers. -/
def RowPost (S : List Int → Prop) (n0 : Nat) (w : World) (e : Ending) (w' : World) : Prop := ∃ v ys, e = .returned v ∧ S ys ∧ w'.ownsRow n0 3 1 v ys.length (ys.map (Value.int .i64)) ∧ (v = .slice none 0 0 ↔ ys = []) ∧ Below n0 w w'

set_option maxRecDepth 100000 in
set_option maxHeartbeats 2000000 in
theorem appendSeq_calls (g : Nat) (lb : Array Value) (eg : ∀ args w, (callFunc g args).run Tryz.prog w = .ok (.enter g args) w) (S : List Int → Prop) (N n0 : Nat) (w w0 : World) (hseq : SeqI g lb n0 S N w0) (hw0 : Below w0.heap.size w0 w) (hn0 : n0 ≤ w.heap.size) (hN : N ≤ 1000000) :
    Calls Tryz.prog 95 #[.slice none 0 0, .func (.func g) #[] lb] w (RowPost S n0 w) := by
  obtain ⟨i0, hi, hz0, hz1, hz2⟩ := info_parts int_parts
  refine (callsIn_wide (n := 3)).1 ?_
  refine callsIn_of_wp_marks Tryz.func95 rfl trivial ?_ rfl
  simp only [Tryz.ntmps95, List.size_toArray, List.length_cons, List.length_nil, Nat.reduceAdd, Nat.reduceSub, Array.replicate_succ, Array.replicate_zero, List.push_toArray, List.append_toArray, List.nil_append, List.cons_append]
  gi_wp2
  have bO := Boxed.new w 22 (.slice none 0 0)
  have hB0 : Below n0 w (w.alloc (.cells #[.slice none 0 0] 22)) := (Below.refl _ w).alloc hn0 _
  refine wpIn_rangeFunc_ownG rfl (by omega) (gf := g) (lb := lb) rfl trivial eg hseq belowK_t (belowK_b (by simp; omega)) (hw0.trans ((Below.refl _ w).alloc hw0.size _)) (fun _ => rfl)
    (fun pre W => (∃ v, Boxed W w.heap.size 22 v ∧ W.ownsRow n0 3 1 v pre.length (pre.map (Value.int .i64)) ∧ (v = .slice none 0 0 ↔ pre = [])) ∧ Below n0 w W)
    (fun _ _ _ => False)
    (OwnFrom.and (Own.from (holdsRow_own n0 w.heap.size 22 3 1 (fun pre => pre.length) (fun pre => pre.map (Value.int .i64)) (fun pre v => v = .slice none 0 0 ↔ pre = [])) _) (ownFrom_below hn0 (by simp; omega)))
    (fun _ _ _ _ _ hs _ _ => hs)
    ⟨⟨_, bO, World.ownsRow_nil _ _ _ _, by simp⟩, hB0⟩
    (fun x => { tmps := #[.slice none 0 0, .func (.func g) #[] lb, .pointer (some ⟨w.heap.size, 0, none⟩), undef, .slice none 0 0, .int .i64 x, .func (.func g) #[] lb, .int .i64 x, undef, undef, undef, undef, undef], defers := [] }) ?assign ?body ?done ?stop
  case assign =>
    intro l x W K hK
    gi_wp2
    exact hK
  case body =>
    rintro l pre x W ⟨⟨v, hv, hrow, hnil⟩, hB⟩ hlt
    have hc := hv.cell
    gi_wp2_with (gi_at_builtin; refine wpListIn_append_own _ rfl _ _ 22 rfl n0 3 i0 (.int .i64 0) 1 8 Tryz.underlying22 hi hz0 hz1 hz2 rfl (by decide) _ _ _ rfl (hrow.alloc _) ⟨W.heap.size, 0, none⟩ 1 1 [.int .i64 x] rfl rfl (cell_one_new _ _ _) (by simp [Value.oneCell']) (by unfold maxLen; omega) (by omega) (by have := hB.size; simp; omega) ?_; intro v' w1 hown' hgrow _; obtain ⟨g', cap', rfl⟩ := ownsRow_succ hown'; obtain ⟨hv1, hv2, hr2, hk2, hb2⟩ := hv.appended (by decide) hrow (Nat.le_trans hn0 hB.size) hn0 hown' hgrow; have hc1 := hv1.cell; have hf1 := hv1.frozen)
    exact ⟨hk2.from _, hb2, ⟨_, hv2, by simpa using hr2, by simp⟩, hB.trans hb2⟩
  case done =>
    rintro D ys W hD hS ⟨⟨v, hv, hrow, hnil⟩, hB⟩ hK
    have hc := hv.cell
    gi_wp2
    refine ⟨by simp, .inl ⟨_, _, rfl, run_takeDeferred hK, ?_⟩⟩
    exact ⟨_, results_tmp rfl _ _ _, v, ys, rfl, hS, ownsRow_putObj hrow _ hK rfl, hnil, hB.trans (belowK_b (w := w) hn0 W D _ _ (by simp at hD; omega) hK rfl rfl)⟩
  case stop =>
    rintro D c pre W _ _ h _
    exact h.elim

theorem collect_calls (g : Nat) (lb : Array Value) (eg : ∀ args w, (callFunc g args).run Tryz.prog w = .ok (.enter g args) w) (S : List Int → Prop) (N n0 : Nat) (w w0 : World) (hseq : SeqI g lb n0 S N w0) (hw0 : Below w0.heap.size w0 w) (hn0 : n0 ≤ w.heap.size) (hN : N ≤ 1000000) :
    Calls Tryz.prog 62 #[.func (.func g) #[] lb] w (RowPost S n0 w) := by
  have H := Lib.hid (appendSeq_calls g lb eg S N n0 w w0 hseq hw0 hn0 hN)
  clear hseq eg
  go_enter Tryz.func62, Tryz.ntmps62
  go_wp2_with (go_at_call 95; refine (H.out).mono ?_; rintro e w1 ⟨v, ys, rfl, hr⟩)
  go_ret
  exact ⟨v, ys, rfl, hr⟩
def sortZ (xs : List Int) : List Int := xs.mergeSort fun x y => decide (x ≤ y)
theorem sortZ_len (xs : List Int) : (sortZ xs).length = xs.length := by unfold sortZ; simp
/-- A row of ints of the call's own: a slice that is not nil. -/
def OwnInts (n0 : Nat) (ys : List Int) (w : World) (e : Ending) (w' : World) : Prop := ∃ b c, e = .returned (.slice (some ⟨b, 0, none⟩) ys.length c) ∧ n0 ≤ b ∧ IntsAt w' (some ⟨b, 0, none⟩) c ys ∧ Below n0 w w'
theorem intsAt_owned {w : World} {base b n c : Nat} {ys : List Int} (h : w.ownsRow base 3 1 (.slice (some ⟨b, 0, none⟩) n c) ys.length (ys.map (Value.int .i64))) (h0 : ys ≠ []) (hbig : ys.length ≤ 4611686018427387904) : n = ys.length ∧ base ≤ b ∧ IntsAt w (some ⟨b, 0, none⟩) c ys := by
  obtain ⟨h1, h2⟩ := h
  rcases h2 with ⟨_, h2⟩ | ⟨g, cap, cur, e, hb, hc, q1, q2, q3, q4⟩
  · exact absurd (List.eq_nil_of_length_eq_zero h2) h0
  · cases e
    refine ⟨rfl, hb, q1, hbig, .inr ⟨b, 0, rfl, (Array.getElem?_eq_some_iff.1 hc).1, fun j hj => ?_⟩⟩
    have hj2 : (cur.toList.take (ys.length * 1))[j]? = (ys.map (Value.int .i64))[j]? := by rw [q4]
    rw [Nat.mul_one, List.getElem?_take_of_lt hj, Array.getElem?_toList, List.getElem?_map, List.getElem?_eq_getElem hj] at hj2
    rw [cell_of_row w b _ _ _ _ hc, Nat.zero_add, hj2, List.getD_eq_getElem?_getD, List.getElem?_eq_getElem hj]
    rfl
set_option maxHeartbeats 1000000 in
theorem sorted_calls (g : Nat) (lb : Array Value) (eg : ∀ args w, (callFunc g args).run Tryz.prog w = .ok (.enter g args) w) (xs : List Int) (N n0 : Nat) (w w0 : World) (hseq : SeqI g lb n0 (fun ys => ys = xs) N w0) (hw0 : Below w0.heap.size w0 w) (hn0 : n0 ≤ w.heap.size) (hN : N ≤ 1000000) (h0 : xs ≠ []) (hbig : xs.length ≤ 1000000) :
    Calls Tryz.prog 33 #[.func (.func g) #[] lb] w (OwnInts n0 (sortZ xs) w) := by
  have H := Lib.hid (collect_calls g lb eg (fun ys => ys = xs) N n0 w w0 hseq hw0 hn0 hN)
  clear hseq eg hw0
  have H0 := Lib.hid h0
  clear h0
  go_enter Tryz.func33, Tryz.ntmps33
  go_wp2_with (go_at_call 62; fail)
  refine (H.out).mono ?_
  rintro e w1 ⟨v, ys, rfl, rfl, hrow, hnil, hB⟩
  rcases hrow.2 with ⟨_, h2⟩ | ⟨b, cap, cur, rfl, hb, hc, q1, q2, q3, q4⟩
  · exact absurd (List.eq_nil_of_length_eq_zero h2) H0.out
  · have hbl : b < w1.heap.size := (Array.getElem?_eq_some_iff.1 hc).1
    have HS := Lib.hid (slices_Sort_int b 0 cap ys w1 (holds_of_block_i hc (by simpa using q4)) hbl (by omega))
    have HF := Lib.hid (fun k os => show OwnInts n0 (sortZ ys) w (.returned (.slice (some ⟨b, 0, none⟩) (sortZ ys).length cap)) (Go.Sort.grow (Go.Sort.putRow encZ (Go.Sort.ahead w1 k) b 0 (sortZ ys).toArray) os) from by
      have ho := ownsRow_sorted_i (os := os) (n := k) (sortZ_len ys) hb hc q1 q2 q3
      rw [← sortZ_len ys] at ho
      exact ⟨b, cap, rfl, hb, (intsAt_owned ho (fun h => H0.out (List.eq_nil_of_length_eq_zero (by rw [← sortZ_len ys, h]; rfl))) (by rw [sortZ_len]; omega)).2.2, hB.grown (grownBy_sorted_i (sortZ ys).toArray) (Nat.le_trans hn0 hB.size) (fun j hj => by cases hj; exact hb)⟩)
    rw [sortZ_len] at HF
    obtain ⟨len, hlen⟩ : ∃ len, ys.length = len := ⟨_, rfl⟩
    rw [hlen] at HF HS ⊢
    clear hlen q1 q4 hrow hnil hB
    go_wp2_with (go_at_call 67; fail)
    refine (HS.out).mono ?_
    rintro e w2 ⟨rfl, k, os, rfl⟩
    go_wp2
    go_ret
    exact HF.out k os
end Go.Proofs.YtdkfebfedfemaaaGreatDoor
