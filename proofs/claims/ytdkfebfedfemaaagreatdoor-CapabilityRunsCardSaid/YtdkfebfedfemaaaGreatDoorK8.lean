/- slices.Values, AppendSeq, Collect, Sorted over ints. capability: Median. -/
import Derived.Test.YtdkfebfedfemaaaGreatDoorK6
import Derived.RangeFuncNested
import Derived.RangeFuncBound
import Derived.RangeFuncCalls
import Derived.RangeFuncLeaves
import Derived.RangeFuncBox
import Derived.Shelf.Abstract
import Derived.Shelf.RegionOpen
import Derived.WalkKit
import Derived.OwnWalkIn
import Derived.TacticsInMore
import Derived.LoopNIn
import Derived.LoopIn
import Derived.Maps.AppendAt
import Derived.Lib.SlKeysI
set_option linter.unusedVariables false
set_option linter.unusedSimpArgs false
namespace Go.Proofs.YtdkfebfedfemaaaGreatDoor
open Go.RowKit Go.Mlab Go.Shelf
attribute [local go_sem] Oper.semAt_some

/-- What an iterator over ints gives: all of a list that S holds of, or a part of one. -/
def SeqI (g : Nat) (lb : Array Value) (n0 : Nat) (S : List Int → Prop) (N : Nat) (w : World) : Prop :=
  SeqStopsK Fence.wide 2 Tryz.prog g lb (fun x : Int => #[Value.int .i64 x]) (Below n0) S (fun _ => True) N w
/-- Ints behind an address, below a block. -/
def IntsIn (n0 : Nat) (W : World) (A : Option Addr) (xs : List Int) : Prop :=
  xs = [] ∨ ∃ b o, A = some ⟨b, o, none⟩ ∧ b < n0 ∧ ∀ j, j < xs.length → W.cell? ⟨b, o + j, none⟩ = some (.int .i64 (xs[j]?.getD 0))
theorem intsIn_of {w : World} {A : Option Addr} {c : Nat} {xs : List Int} (h : IntsAt w A c xs) : IntsIn w.heap.size w A xs :=
  h.at_.imp id (fun ⟨b, o, e, hb, hc⟩ => ⟨b, o, e, hb, fun j hj => by rw [hc j hj, List.getD_eq_getElem?_getD]⟩)
theorem IntsIn.below {n0 : Nat} {W W' : World} {A : Option Addr} {xs : List Int} (h : IntsIn n0 W A xs) (k : Below n0 W W') : IntsIn n0 W' A xs :=
  h.imp id (fun ⟨b, o, e, hb, hc⟩ => ⟨b, o, e, hb, fun j hj => (k.cell (p := ⟨b, o + j, none⟩) hb).trans (hc j hj)⟩)
theorem IntsIn.get {n0 : Nat} {W : World} {A : Option Addr} {xs : List Int} (h : IntsIn n0 W A xs) {i : Nat} (hi : i < xs.length) : ∃ b o, A = some ⟨b, o, none⟩ ∧ b < n0 ∧ W.cell? ⟨b, o + i, none⟩ = some (.int .i64 (xs[i]?.getD 0)) := by
  rcases h with h | ⟨b, o, e, hb, hc⟩
  · rw [h] at hi; simp at hi
  · exact ⟨b, o, e, hb, hc i hi⟩
theorem take_snoc' {xs : List Int} {k : Nat} (hk : k < xs.length) : xs.take (k + 1) = xs.take k ++ [xs[k]?.getD 0] := by
  rw [List.take_succ_eq_append_getElem hk, List.getElem?_eq_getElem hk]; rfl

set_option maxRecDepth 100000 in
set_option maxHeartbeats 2000000 in
theorem values1_in (n : Nat) (hn : 1 ≤ n) (l Bs n0 : Nat) (A : Option Addr) (cap len : Nat) (xs : List Int) (hlen : xs.length = len) (hbig : len ≤ 4611686018427387904) (J Jx : List Int → World → Prop)
    (hY : ∀ pre x W, J pre W → pre.length < len → YieldAt Fence.wide (n - 1) Tryz.prog l #[.int .i64 x] W fun e W' =>
      (e = .returned (.bool true) ∧ J (pre ++ [x]) W' ∧ Below n0 W W') ∨ (e = .returned (.bool false) ∧ Jx (pre ++ [x]) W'))
    (W : World) (hBs : W.cell? ⟨Bs, 0, none⟩ = some (.slice A len cap)) (hI : IntsIn n0 W A xs) (h0 : J [] W) :
    CallsIn Fence.wide n Tryz.prog 68 #[.func (.yield l) #[] #[], .pointer (some ⟨Bs, 0, none⟩)] W fun e W' => (∃ v, e = .returned v) ∧
      ((∃ ys, ys = xs ∧ J ys W') ∨ (∃ pre : List Int, True ∧ Jx pre W')) := by
  have Hn := Lib.hid hlen
  have HI := Lib.hid hI
  clear hlen hI
  refine callsIn_of_wp Tryz.func68 rfl trivial ?_ rfl
  simp only [Tryz.ntmps68, List.size_toArray, List.length_cons, List.length_nil, Nat.reduceAdd, Nat.reduceSub, Array.replicate_succ, Array.replicate_zero, List.push_toArray, List.append_toArray, List.nil_append, List.cons_append]
  gi_wp2
  gi_loopw [7] (fun i wr => ∃ k : Nat, k ≤ len ∧ i = .int .i64 k ∧ J (xs.take k) wr ∧ Below n0 W wr)
    (fun i _ => len - (intOf i).toNat)
  case atStart => exact ⟨0, Nat.zero_le _, rfl, h0, Below.refl _ _⟩
  case round =>
    obtain ⟨k, hk, rfl, hJs, hnx⟩ := hrel
    by_cases hlt : k < len
    · obtain ⟨b, o, rfl, hb, hcx⟩ := (HI.out.below hnx).get (i := k) (by rw [Hn.out]; exact hlt)
      have HS := Lib.hid (take_snoc' (xs := xs) (k := k) (by rw [Hn.out]; exact hlt))
      obtain ⟨fn, tmps, assign, body, hy, hR⟩ := hY _ (xs[k]?.getD 0) wr hJs (by rw [List.length_take, Hn.out]; omega)
      gi_wp2
      refine hR.mono ?_
      rintro e W3 (⟨rfl, hJ3, hk3⟩ | ⟨rfl, hJx3⟩)
      · gi_wp2
        go_roundw
        case rel => exact ⟨k + 1, by omega, by simp, by rw [HS.out]; exact hJ3, hnx.trans hk3⟩
        case measure => simp [intOf]; omega
      · gi_wp2
        refine bodyPost_ret (results_none rfl _ _ _) rfl ?_
        exact ⟨⟨_, rfl⟩, .inr ⟨_, trivial, hJx3⟩⟩
    · obtain rfl : k = len := by omega
      have e : xs.take k = xs := by rw [← Hn.out, List.take_length]
      have HE := Lib.hid e
      clear e
      gi_wp2
      go_end0
      exact ⟨⟨_, rfl⟩, .inl ⟨_, rfl, by rw [HE.out] at hJs; exact hJs⟩⟩

theorem values_seq (A : Option Addr) (cap : Nat) (xs : List Int) (w w1 : World) (hx : IntsAt w A cap xs) (Bs : Nat) (hBs : Bs < w1.heap.size) (hw : Below w.heap.size w w1) (hc : w1.cell? ⟨Bs, 0, none⟩ = some (.slice A xs.length cap)) :
    SeqI 68 #[.pointer (some ⟨Bs, 0, none⟩)] w.heap.size (fun ys => ys = xs) xs.length w1 := fun l J Jx W hW _ _ hY h0 =>
  values1_in 2 (by omega) l Bs w.heap.size A cap xs.length xs rfl hx.big J Jx hY W ((hW.cell (p := ⟨Bs, 0, none⟩) hBs).trans hc) ((intsIn_of hx).below (hw.trans (hW.mono hw.size))) h0

theorem values_calls (A : Option Addr) (len cap : Nat) (w : World) :
    Calls Tryz.prog 34 #[.slice A len cap] w fun e w' => e = .returned (.func (.func 68) #[] #[.pointer (some ⟨w.heap.size, 0, none⟩)]) ∧ w.alloc (.cells #[.slice A len cap] 22) = w' := by
  go_enter Tryz.func34, Tryz.ntmps34
  go_wp2
  go_ret
  exact ⟨rfl, rfl⟩

theorem int_parts : (Tryz.prog.info? 3).map (fun i => (i.zero, i.size, i.bytes)) = some (some (.int .i64 0), 1, 8) := by kernel_rfl

/-- What a collecting function answers. -/
def RowPost (S : List Int → Prop) (n0 : Nat) (w : World) (e : Ending) (w' : World) : Prop := ∃ v ys, e = .returned v ∧ S ys ∧ w'.ownsRow n0 3 1 v ys.length (ys.map (Value.int .i64)) ∧ (v = .slice none 0 0 ↔ ys = []) ∧ Below n0 w w'

set_option maxRecDepth 100000 in
set_option maxHeartbeats 2000000 in
theorem appendSeq_calls (g : Nat) (lb : Array Value) (eg : ∀ args w, (callFunc g args).run Tryz.prog w = .ok (.enter g args) w) (S : List Int → Prop) (N n0 : Nat) (w w0 : World) (hseq : SeqI g lb n0 S N w0) (hw0 : Below w0.heap.size w0 w) (hn0 : n0 ≤ w.heap.size) (hN : N ≤ 1000000) :
    Calls Tryz.prog 95 #[.slice none 0 0, .func (.func g) #[] lb] w (RowPost S n0 w) := by
  obtain ⟨i0, hi, hz0, hz1, hz2⟩ := info_parts int_parts
  refine (callsIn_wide (n := 3)).1 ?_
  refine callsIn_of_wp_marks Tryz.func95 rfl trivial ?_ rfl
  simp only [Tryz.ntmps95, List.size_toArray, List.length_cons, List.length_nil, Nat.reduceAdd, Nat.reduceSub, Array.replicate_succ, Array.replicate_zero, List.push_toArray, List.append_toArray, List.nil_append, List.cons_append]
  gi_wp2
  have bO := Boxed.new w 22 (.slice none 0 0)
  have hB0 : Below n0 w (w.alloc (.cells #[.slice none 0 0] 22)) := (Below.refl _ w).alloc hn0 _
  refine wpIn_rangeFunc_ownG rfl (by omega) (gf := g) (lb := lb) rfl trivial eg hseq belowK_t (belowK_b (by simp; omega)) (hw0.trans ((Below.refl _ w).alloc hw0.size _)) (fun _ => rfl)
    (fun pre W => (∃ v, Boxed W w.heap.size 22 v ∧ W.ownsRow n0 3 1 v pre.length (pre.map (Value.int .i64)) ∧ (v = .slice none 0 0 ↔ pre = [])) ∧ Below n0 w W)
    (fun _ _ _ => False)
    (OwnFrom.and (Own.from (holdsRow_own n0 w.heap.size 22 3 1 (fun pre => pre.length) (fun pre => pre.map (Value.int .i64)) (fun pre v => v = .slice none 0 0 ↔ pre = [])) _) (ownFrom_below hn0 (by simp; omega)))
    (fun _ _ _ _ _ hs _ _ => hs)
    ⟨⟨_, bO, World.ownsRow_nil _ _ _ _, by simp⟩, hB0⟩
    (fun x => { tmps := #[.slice none 0 0, .func (.func g) #[] lb, .pointer (some ⟨w.heap.size, 0, none⟩), undef, .slice none 0 0, .int .i64 x, .func (.func g) #[] lb, .int .i64 x, undef, undef, undef, undef, undef], defers := [] }) ?assign ?body ?done ?stop
  case assign =>
    intro l x W K hK
    gi_wp2
    exact hK
  case body =>
    rintro l pre x W ⟨⟨v, hv, hrow, hnil⟩, hB⟩ hlt
    have hc := hv.cell
    gi_wp2_with (gi_at_builtin; refine wpListIn_append_own _ rfl _ _ 22 rfl n0 3 i0 (.int .i64 0) 1 8 Tryz.underlying22 hi hz0 hz1 hz2 rfl (by decide) _ _ _ rfl (hrow.alloc _) ⟨W.heap.size, 0, none⟩ 1 1 [.int .i64 x] rfl rfl (cell_one_new _ _ _) (by simp [Value.oneCell']) (by unfold maxLen; omega) (by omega) (by have := hB.size; simp; omega) ?_; intro v' w1 hown' hgrow _; obtain ⟨g', cap', rfl⟩ := ownsRow_succ hown'; obtain ⟨hv1, hv2, hr2, hk2, hb2⟩ := hv.appended (by decide) hrow (Nat.le_trans hn0 hB.size) hn0 hown' hgrow; have hc1 := hv1.cell; have hf1 := hv1.frozen)
    exact ⟨hk2.from _, hb2, ⟨_, hv2, by simpa using hr2, by simp⟩, hB.trans hb2⟩
  case done =>
    rintro D ys W hD hS ⟨⟨v, hv, hrow, hnil⟩, hB⟩ hK
    have hc := hv.cell
    gi_wp2
    refine ⟨by simp, .inl ⟨_, _, rfl, run_takeDeferred hK, ?_⟩⟩
    exact ⟨_, results_tmp rfl _ _ _, v, ys, rfl, hS, ownsRow_putObj hrow _ hK rfl, hnil, hB.trans (belowK_b (w := w) hn0 W D _ _ (by simp at hD; omega) hK rfl rfl)⟩
  case stop =>
    rintro D c pre W _ _ h _
    exact h.elim

theorem collect_calls (g : Nat) (lb : Array Value) (eg : ∀ args w, (callFunc g args).run Tryz.prog w = .ok (.enter g args) w) (S : List Int → Prop) (N n0 : Nat) (w w0 : World) (hseq : SeqI g lb n0 S N w0) (hw0 : Below w0.heap.size w0 w) (hn0 : n0 ≤ w.heap.size) (hN : N ≤ 1000000) :
    Calls Tryz.prog 62 #[.func (.func g) #[] lb] w (RowPost S n0 w) := by
  have H := Lib.hid (appendSeq_calls g lb eg S N n0 w w0 hseq hw0 hn0 hN)
  clear hseq eg
  go_enter Tryz.func62, Tryz.ntmps62
  go_wp2_with (go_at_call 95; refine (H.out).mono ?_; rintro e w1 ⟨v, ys, rfl, hr⟩)
  go_ret
  exact ⟨v, ys, rfl, hr⟩
def sortZ (xs : List Int) : List Int := xs.mergeSort fun x y => decide (x ≤ y)
theorem sortZ_len (xs : List Int) : (sortZ xs).length = xs.length := by unfold sortZ; simp
/-- A row of ints of the call's own: a slice that is not nil. -/
def OwnInts (n0 : Nat) (ys : List Int) (w : World) (e : Ending) (w' : World) : Prop := ∃ b c, e = .returned (.slice (some ⟨b, 0, none⟩) ys.length c) ∧ n0 ≤ b ∧ IntsAt w' (some ⟨b, 0, none⟩) c ys ∧ Below n0 w w'
theorem intsAt_owned {w : World} {base b n c : Nat} {ys : List Int} (h : w.ownsRow base 3 1 (.slice (some ⟨b, 0, none⟩) n c) ys.length (ys.map (Value.int .i64))) (h0 : ys ≠ []) (hbig : ys.length ≤ 4611686018427387904) : n = ys.length ∧ base ≤ b ∧ IntsAt w (some ⟨b, 0, none⟩) c ys := by
  obtain ⟨h1, h2⟩ := h
  rcases h2 with ⟨_, h2⟩ | ⟨g, cap, cur, e, hb, hc, q1, q2, q3, q4⟩
  · exact absurd (List.eq_nil_of_length_eq_zero h2) h0
  · cases e
    refine ⟨rfl, hb, q1, hbig, .inr ⟨b, 0, rfl, (Array.getElem?_eq_some_iff.1 hc).1, fun j hj => ?_⟩⟩
    have hj2 : (cur.toList.take (ys.length * 1))[j]? = (ys.map (Value.int .i64))[j]? := by rw [q4]
    rw [Nat.mul_one, List.getElem?_take_of_lt hj, Array.getElem?_toList, List.getElem?_map, List.getElem?_eq_getElem hj] at hj2
    rw [cell_of_row w b _ _ _ _ hc, Nat.zero_add, hj2, List.getD_eq_getElem?_getD, List.getElem?_eq_getElem hj]
    rfl
set_option maxHeartbeats 1000000 in
theorem sorted_calls (g : Nat) (lb : Array Value) (eg : ∀ args w, (callFunc g args).run Tryz.prog w = .ok (.enter g args) w) (xs : List Int) (N n0 : Nat) (w w0 : World) (hseq : SeqI g lb n0 (fun ys => ys = xs) N w0) (hw0 : Below w0.heap.size w0 w) (hn0 : n0 ≤ w.heap.size) (hN : N ≤ 1000000) (h0 : xs ≠ []) (hbig : xs.length ≤ 1000000) :
    Calls Tryz.prog 33 #[.func (.func g) #[] lb] w (OwnInts n0 (sortZ xs) w) := by
  have H := Lib.hid (collect_calls g lb eg (fun ys => ys = xs) N n0 w w0 hseq hw0 hn0 hN)
  clear hseq eg hw0
  have H0 := Lib.hid h0
  clear h0
  go_enter Tryz.func33, Tryz.ntmps33
  go_wp2_with (go_at_call 62; fail)
  refine (H.out).mono ?_
  rintro e w1 ⟨v, ys, rfl, rfl, hrow, hnil, hB⟩
  rcases hrow.2 with ⟨_, h2⟩ | ⟨b, cap, cur, rfl, hb, hc, q1, q2, q3, q4⟩
  · exact absurd (List.eq_nil_of_length_eq_zero h2) H0.out
  · have hbl : b < w1.heap.size := (Array.getElem?_eq_some_iff.1 hc).1
    have HS := Lib.hid (slices_Sort_int b 0 cap ys w1 (holds_of_block_i hc (by simpa using q4)) hbl (by omega))
    have HF := Lib.hid (fun k os => show OwnInts n0 (sortZ ys) w (.returned (.slice (some ⟨b, 0, none⟩) (sortZ ys).length cap)) (Go.Sort.grow (Go.Sort.putRow encZ (Go.Sort.ahead w1 k) b 0 (sortZ ys).toArray) os) from by
      have ho := ownsRow_sorted_i (os := os) (n := k) (sortZ_len ys) hb hc q1 q2 q3
      rw [← sortZ_len ys] at ho
      exact ⟨b, cap, rfl, hb, (intsAt_owned ho (fun h => H0.out (List.eq_nil_of_length_eq_zero (by rw [← sortZ_len ys, h]; rfl))) (by rw [sortZ_len]; omega)).2.2, hB.grown (grownBy_sorted_i (sortZ ys).toArray) (Nat.le_trans hn0 hB.size) (fun j hj => by cases hj; exact hb)⟩)
    rw [sortZ_len] at HF
    obtain ⟨len, hlen⟩ : ∃ len, ys.length = len := ⟨_, rfl⟩
    rw [hlen] at HF HS ⊢
    clear hlen q1 q4 hrow hnil hB
    go_wp2_with (go_at_call 67; fail)
    refine (HS.out).mono ?_
    rintro e w2 ⟨rfl, k, os, rfl⟩
    go_wp2
    go_ret
    exact HF.out k os
end Go.Proofs.YtdkfebfedfemaaaGreatDoor
set_option linter.unusedVariables false
set_option linter.unusedSimpArgs false
namespace Go.Proofs.YtdkfebfedfemaaaGreatDoor
open Go.RowKit Go.Mlab

def med (xs : List Int) : Rat := Rat.divInt ((sortZ xs).getD ((xs.length - 1) / 2) 0 + (sortZ xs).getD (xs.length / 2) 0) 2
theorem sortZ_mem {xs : List Int} {x : Int} : x ∈ sortZ xs ↔ x ∈ xs := by unfold sortZ; exact List.mem_mergeSort
theorem sortZ_get {xs : List Int} {P : Int → Prop} (h : ∀ x ∈ xs, P x) {i : Nat} (hi : i < xs.length) : P ((sortZ xs).getD i 0) :=
  h _ (sortZ_mem.1 (getD_mem (by rw [sortZ_len]; exact hi)))
theorem ints_lt {w : World} {b o : Nat} {c : Nat} {xs : List Int} (h : IntsAt w (some ⟨b, o, none⟩) c xs) (h0 : xs ≠ []) : b < w.heap.size := by
  rcases h.at_ with h | ⟨b', o', e, hb, _⟩
  · exact absurd h h0
  · cases e; exact hb
theorem enters68 : ∀ args w, (callFunc 68 args).run Tryz.prog w = .ok (.enter 68 args) w := enters_of Tryz.func68 (by kernel_rfl) rfl
set_option maxRecDepth 100000 in
set_option maxHeartbeats 2000000 in
theorem median_calls (A : Option Addr) (c : Nat) (xs : List Int) (w : World) (hx : IntsAt w A c xs) (hT : Tab w) :
    Calls Tryz.prog 16 #[.slice A xs.length c] w fun e w' => e = .returned (resV (serE xs) (med xs)) ∧ Below w.heap.size w w' := by
  have HC := Lib.hid (cap_check_calls A c xs w hx)
  by_cases h0 : serE xs = 0
  · have hok := serE_ok h0
    unfold resV
    rw [if_pos h0]
    have hV := values_calls A xs.length c w
    have HS := Lib.hid (sorted_calls 68 #[.pointer (some ⟨w.heap.size, 0, none⟩)] enters68 xs xs.length w.heap.size (w.alloc (.cells #[.slice A xs.length c] 22)) (w.alloc (.cells #[.slice A xs.length c] 22))
      (values_seq A c xs w _ hx w.heap.size (by simp) ((Below.refl _ w).alloc (Nat.le_refl _) _) (by rw [cell_of_row _ _ _ _ _ _ (alloc_new w _)]; rfl)) (Below.refl _ _) (by simp) (by omega) hok.1 (by omega))
    have hl1 : 1 ≤ xs.length := by have := hok.1; have : xs.length ≠ 0 := fun h => this (List.length_eq_zero_iff.1 h); omega
    have b1 := sortZ_get hok.2.2 (i := (xs.length - 1) / 2) (by omega)
    have b2 := sortZ_get hok.2.2 (i := xs.length / 2) (by omega)
    have HO := Lib.hid (fun w1 h => rat_of_calls ((sortZ xs).getD ((xs.length - 1) / 2) 0 + (sortZ xs).getD (xs.length / 2) 0) 2 w1 (by omega) (by omega) (by omega) h)
    have HT := Lib.hid hT
    have hA : Below w.heap.size w (w.alloc (.cells #[.slice A xs.length c] 22)) := (Below.refl _ w).alloc (Nat.le_refl _) _
    have HA := Lib.hid hA
    have HV := Lib.hid hV
    have hlen := sortZ_len xs
    rw [h0] at HC ⊢
    unfold med
    have hl4 := hok.2.1
    clear hx hT h0 hok hA hV
    generalize sortZ xs = ys at *
    obtain ⟨n, hn⟩ : ∃ n, xs.length = n := ⟨_, rfl⟩
    rw [hn] at HC HV HS HO HA hlen hl1 hl4 b1 b2 ⊢
    clear hn
    have HL := Lib.hid hlen
    clear hlen
    generalize Q (Rat.divInt (ys.getD ((n - 1) / 2) 0 + ys.getD (n / 2) 0) 2) = out at *
    go_enter Tryz.func16, Tryz.ntmps16
    go_wp2_with (go_at_call 18; refine (HC.out).mono ?_; rintro e w1 ⟨rfl, rfl⟩)
    go_wp2_with (go_at_call 34; refine (HV.out).mono ?_; rintro e w2 ⟨rfl, rfl⟩)
    go_wp2_with (go_at_call 33; fail)
    refine (HS.out).mono ?_
    rintro e w3 ⟨b, cp, rfl, hb, hI, hB⟩
    have hB2 := HA.out.trans hB
    obtain ⟨j1, hj1⟩ : ∃ j1, (n - 1) / 2 = j1 := ⟨_, rfl⟩
    obtain ⟨j2, hj2⟩ : ∃ j2, n / 2 = j2 := ⟨_, rfl⟩
    rw [hj1] at b1 HO
    rw [hj2] at b2 HO
    have g1 := ints_get hI (i := j1) (by rw [HL.out]; omega)
    have g2 := ints_get hI (i := j2) (by rw [HL.out]; omega)
    rw [HL.out]
    obtain ⟨b', o', e1, g1⟩ := g1
    obtain ⟨b'', o'', e2, g2⟩ := g2
    simp only [Option.some.injEq, Addr.mk.injEq, and_true] at e1 e2
    obtain ⟨rfl, rfl⟩ := e1
    obtain ⟨rfl, rfl⟩ := e2
    rw [Nat.zero_add] at g1 g2
    have k1 : ((n : Int) - 1) / 2 = (j1 : Int) := by omega
    have k2 : (n : Int) / 2 = (j2 : Int) := by omega
    have l1 : (j1 : Int) < n := by omega
    have l2 : (j2 : Int) < n := by omega
    have m1 : j1 < n := by omega
    have m2 : j2 < n := by omega
    generalize ys.getD j1 0 = y1 at *
    generalize ys.getD j2 0 = y2 at *
    have hI2 := Lib.hid (ints_lt hI (by intro h; rw [h] at HL; have := HL.out; simp at this; omega))
    clear hj1 hj2 hI hB
    go_wp2
    have HB := Lib.hid hB2
    clear hB2
    have hbl := hI2.out
    have HG := Lib.hid (fun w4 (h : Below w3.drew.heap.size w3.drew w4) => show w4.cell? ⟨b, j1, none⟩ = some (.int .i64 y1) ∧ w4.cell? ⟨b, j2, none⟩ = some (.int .i64 y2) from ⟨(h.cell (p := ⟨b, j1, none⟩) hbl).trans g1, (h.cell (p := ⟨b, j2, none⟩) hbl).trans g2⟩)
    obtain ⟨N, hN⟩ : ∃ N : Int, (n : Int) = N := ⟨_, rfl⟩
    rw [hN] at k1 k2 ⊢
    have q0 : 1 ≤ N := by omega
    have q1 : N ≤ 4096 := by omega
    have v1 : IntKind.i64.wrap (N - 1) = N - 1 := Go.IntWalk.i64_in _ ⟨by omega, by omega⟩
    have v2 : IntKind.i64.wrap ((N - 1).tdiv 2) = (j1 : Int) := by
      rw [Int.tdiv_eq_ediv_of_nonneg (by omega), k1]; exact Go.IntWalk.i64_in _ ⟨by omega, by omega⟩
    have v3 : IntKind.i64.wrap (N.tdiv 2) = (j2 : Int) := by
      rw [Int.tdiv_eq_ediv_of_nonneg (by omega), k2]; exact Go.IntWalk.i64_in _ ⟨by omega, by omega⟩
    clear hN
    have v4 : IntKind.i64.wrap (y1 + y2) = y1 + y2 := Go.IntWalk.i64_in _ ⟨by omega, by omega⟩
    have p1 : (0 : Int) ≤ j1 := by omega
    have p2 : (0 : Int) ≤ j2 := by omega
    clear k1
    go_region_held3 (fun W : World => W.cell? ⟨b, j1, none⟩ = some (.int .i64 y1) ∧ W.cell? ⟨b, j2, none⟩ = some (.int .i64 y2)) (first | exact ⟨g1, g2⟩ | exact HK.out) (first | (go_at_call 45; refine (HO.out _ (tab_below' HT.out (pw_below_drewN HB.out 1) (Nat.le_refl _))).mono ?_; rintro e w4 ⟨rfl, hw4⟩; have HK := Lib.hid (HG.out w4 hw4)))
    go_wp2
    go_ret2
    exact ⟨rfl, below_below (pw_below_drewN HB.out 1) (pw_below_drewN HB.out 1).size hw4⟩
  · have hb : (serE xs != 0) = true := by simpa using h0
    unfold resV
    rw [if_neg h0]
    clear hx
    generalize serE xs = e0 at *
    generalize xs.length = n at *
    go_enter Tryz.func16, Tryz.ntmps16
    go_wp2_with (go_at_call 18; refine (HC.out).mono ?_; rintro e w1 ⟨rfl, rfl⟩)
    go_ret2
    exact ⟨rfl, Below.refl _ _⟩
end Go.Proofs.YtdkfebfedfemaaaGreatDoor
