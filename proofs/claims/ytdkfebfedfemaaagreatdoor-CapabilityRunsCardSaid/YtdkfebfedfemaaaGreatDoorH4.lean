/- The reference's Sorted. -/
import Derived.Test.YtdkfebfedfemaaaGreatDoorH3
import Derived.BigQuiet
import Derived.BigRegion
set_option linter.unusedVariables false
set_option linter.unusedSimpArgs false
namespace Go.Proofs.YtdkfebfedfemaaaGreatDoor
open Go.RowKit Go.Mlab

theorem sortZ_pw (xs : List Int) : (sortZ xs).Pairwise fun x y => x ≤ y := by
  have h := List.pairwise_mergeSort (le := fun x y : Int => decide (x ≤ y)) (by intro a b c h1 h2; simp at *; omega) (by intro a b; simp; omega) xs
  unfold sortZ
  exact h.imp fun h => by simpa using h
theorem sortZ_unique {l xs : List Int} (h : l.Pairwise fun x y => x ≤ y) (hp : l.Perm xs) : l = sortZ xs :=
  List.Perm.eq_of_pairwise (le := fun x y : Int => x ≤ y) (fun a b _ _ h1 h2 => by omega) h (sortZ_pw xs) (hp.trans (sortZ_perm xs).symm)
theorem sortZ_nil : sortZ [] = [] := by unfold sortZ; simp
/-- A list into which a number sinks. -/
def Sink (base : List Int) (v : Int) (k : Nat) (cs : List Int) : Prop :=
  ∃ A B, cs = A ++ v :: B ∧ A.length = k ∧ A ++ B = base ∧ ∀ b ∈ B, v < b
theorem sink_start (base : List Int) (v : Int) : Sink base v base.length (base ++ [v]) :=
  ⟨base, [], rfl, rfl, by simp, by simp⟩
theorem sink_get {base : List Int} {v : Int} {k : Nat} {cs : List Int} (h : Sink base v k cs) : cs.getD k 0 = v ∧ cs.length = base.length + 1 := by
  obtain ⟨A, B, rfl, rfl, rfl, _⟩ := h
  refine ⟨?_, by simp; omega⟩
  rw [List.getD_eq_getElem?_getD, List.getElem?_append_right (Nat.le_refl _), Nat.sub_self]; rfl
theorem sink_step {base : List Int} {v : Int} {k : Nat} {cs : List Int} (h : Sink base v (k + 1) cs) (hlt : v < cs.getD k 0) :
    Sink base v k ((cs.set (k + 1) (cs.getD k 0)).set k v) := by
  obtain ⟨A, B, rfl, hA, rfl, hB⟩ := h
  obtain ⟨A', a, rfl⟩ : ∃ A' a, A = A' ++ [a] := by
    rcases List.eq_nil_or_concat A with rfl | ⟨A', a, rfl⟩
    · simp at hA
    · exact ⟨A', a, by simp⟩
  have hk : A'.length = k := by simpa using hA
  have e : (A' ++ [a] ++ v :: B).getD k 0 = a := by
    rw [List.append_assoc, List.getD_eq_getElem?_getD, List.getElem?_append_right (by omega), hk, Nat.sub_self]; rfl
  rw [e] at hlt ⊢
  refine ⟨A', a :: B, ?_, hk, by simp, ?_⟩
  · rw [List.append_assoc, List.set_append_right _ _ (by omega), List.set_append_right _ _ (by omega), hk, Nat.sub_self, show k + 1 - k = 1 by omega]
    rfl
  · intro b hb
    rcases List.mem_cons.1 hb with rfl | hb
    · exact hlt
    · exact hB b hb
theorem sink_end {xs : List Int} {v : Int} {k : Nat} {cs : List Int} (h : Sink (sortZ xs) v k cs) (hle : k = 0 ∨ cs.getD (k - 1) 0 ≤ v) : cs = sortZ (xs ++ [v]) := by
  obtain ⟨A, B, rfl, hk, hb, hB⟩ := h
  have hs := sortZ_pw xs
  rw [← hb, List.pairwise_append] at hs
  refine sortZ_unique ?_ ?_
  · rw [List.pairwise_append]
    have hA : ∀ a ∈ A, a ≤ v := by
      rcases List.eq_nil_or_concat A with rfl | ⟨A', a, rfl⟩
      · intro a ha; cases ha
      · have hl : A'.length + 1 = k := by simpa using hk
        have e : (A'.concat a ++ v :: B).getD (k - 1) 0 = a := by
          rw [List.concat_eq_append, List.append_assoc, List.getD_eq_getElem?_getD, List.getElem?_append_right (by omega), show k - 1 - A'.length = 0 by omega]; rfl
        rw [e] at hle
        have hav : a ≤ v := by omega
        intro x hx
        rw [List.concat_eq_append] at hx hs
        rcases List.mem_append.1 hx with hx | hx
        · have := (List.pairwise_append.1 hs.1).2.2 x hx a (by simp)
          omega
        · rw [List.mem_singleton.1 hx]; exact hav
    refine ⟨hs.1, List.pairwise_cons.2 ⟨fun b hb => by have := hB b hb; omega, hs.2.1⟩, fun a ha b hb => ?_⟩
    rcases List.mem_cons.1 hb with rfl | hb
    · exact hA a ha
    · exact hs.2.2 a ha b hb
  · have h1 : (A ++ v :: B).Perm (v :: (A ++ B)) := List.perm_middle
    rw [hb] at h1
    refine h1.trans ?_
    have h2 : (v :: sortZ xs).Perm (v :: xs) := (sortZ_perm xs).cons v
    exact h2.trans (List.perm_append_comm (l₁ := [v]) (l₂ := xs))
/-- A row of ints of one's own. -/
def OwnZ (w : World) (base : Nat) (v : Value) (ys : List Int) : Prop := w.ownsRow base 3 1 v ys.length (ys.map (Value.int .i64))
theorem ownZ_nil (w : World) (base : Nat) : OwnZ w base (.slice none 0 0) [] := ⟨rfl, .inl ⟨rfl, rfl⟩⟩
theorem ownZ_some {w : World} {base : Nat} {v : Value} {ys : List Int} (h : OwnZ w base v ys) (h0 : ys ≠ []) :
    ∃ g cap, v = .slice (some ⟨g, 0, none⟩) ys.length cap ∧ base ≤ g ∧ g < w.heap.size ∧ ys.length ≤ cap := by
  rcases h.2 with ⟨_, h2⟩ | ⟨g, cap, cur, e, hb, hc, q1, _⟩
  · exact absurd (List.eq_nil_of_length_eq_zero h2) h0
  · exact ⟨g, cap, e, hb, (Array.getElem?_eq_some_iff.1 hc).1, q1⟩
theorem ownZ_cell {w : World} {base g cap n : Nat} {ys : List Int} (h : OwnZ w base (.slice (some ⟨g, 0, none⟩) n cap) ys) {j : Nat} (hj : j < ys.length) :
    w.cell? ⟨g, j, none⟩ = some (.int .i64 (ys.getD j 0)) ∧ w.frozen? ⟨g, j, none⟩ = false := by
  rcases h.2 with ⟨h2, _⟩ | ⟨g', cap', cur, e, hb, hc, q1, q2, q3, q4⟩
  · cases h2
  · cases e
    refine ⟨?_, by unfold World.frozen?; rw [hc]; simp⟩
    unfold World.cell?
    rw [hc]
    have h5 := congrArg (fun l : List Value => l[j]?) q4
    simp only [List.getElem?_map] at h5
    rw [List.getElem?_take_of_lt (by omega), List.getElem?_eq_getElem hj] at h5
    simp only [Array.getElem?_toList] at h5
    simp only [h5]
    rw [List.getD_eq_getElem?_getD, List.getElem?_eq_getElem hj]; rfl
theorem ownZ_set {w : World} {base g cap n : Nat} {ys : List Int} (h : OwnZ w base (.slice (some ⟨g, 0, none⟩) n cap) ys) {j : Nat} (hj : j < ys.length) (x : Int) :
    OwnZ (w.setCell ⟨g, j, none⟩ (.int .i64 x)) base (.slice (some ⟨g, 0, none⟩) n cap) (ys.set j x) := by
  rcases h.2 with ⟨h2, _⟩ | ⟨g', cap', cur, e, hb, hc, q1, q2, q3, q4⟩
  · cases h2
  · cases e
    refine ⟨by simp, .inr ⟨g, cap, _, by simp, hb, heap_setCell_same w g j _ _ _ hc, by simp; exact q1, q2, by simpa using q3, ?_⟩⟩
    rw [Array.toList_setIfInBounds, List.take_set, List.map_set, List.length_set, q4]
theorem ownZ_below {w w' : World} {base : Nat} {v : Value} {ys : List Int} (h : OwnZ w base v ys) (k : Below w.heap.size w w') : OwnZ w' base v ys := by
  refine ⟨h.1, h.2.imp id ?_⟩
  rintro ⟨g, cap, cur, e, hb, hc, q⟩
  exact ⟨g, cap, cur, e, hb, (k.block g (Array.getElem?_eq_some_iff.1 hc).1).trans hc, q⟩
theorem ownZ_drew {w : World} {base : Nat} {v : Value} {ys : List Int} (h : OwnZ w base v ys) (q : Nat) : OwnZ (w.drewN q) base v ys := h
theorem ownZ_ints {w : World} {base : Nat} {v : Value} {ys : List Int} (h : OwnZ w base v ys) (hbig : ys.length ≤ 4611686018427387904) : ∃ A c, v = .slice A ys.length c ∧ IntsAt w A c ys := row_ints h hbig
theorem ownZ_ge {w : World} {base : Nat} {v : Value} {ys : List Int} (h : OwnZ w base v ys) : ∀ j, v.ownBlock = some j → base ≤ j := fun j ej => by
  rcases h.2 with ⟨rfl, _⟩ | ⟨g, cap, cur, rfl, hb, _, _⟩
  · simp [Value.ownBlock] at ej
  · obtain rfl : g = j := by simpa [Value.ownBlock] using ej
    exact hb
theorem ownZ_app {w : World} {base n : Nat} {v : Value} {ys : List Int} {z : Int} (hn : ys.length = n) (h : w.ownsRow base 3 1 v (n + 1) (ys.map (Value.int .i64) ++ [.int .i64 z])) : OwnZ w base v (ys ++ [z]) := by
  unfold OwnZ
  rw [List.length_append, List.map_append, hn]
  exact h
set_option maxRecDepth 100000 in
set_option maxHeartbeats 4000000 in
theorem ref_sorted_calls (A : Option Addr) (c : Nat) (xs : List Int) (w : World) (hx : IntsAt w A c xs) (hl : xs.length ≤ 4096) :
    Calls Tryz.prog 46 #[.slice A xs.length c] w fun e w' => ∃ v', e = .returned v' ∧ OwnZ w' w.heap.size v' (sortZ xs) ∧ Below w.heap.size w w' := by
  obtain ⟨i0, hi0, hz0, hz1, hz2⟩ := int_info
  have HX := Lib.hid hx
  have hc := hx.cap
  clear hx
  obtain ⟨n, hn⟩ : ∃ n, xs.length = n := ⟨_, rfl⟩
  rw [hn] at hl hc ⊢
  have Hn := Lib.hid hn
  clear hn
  go_enter Tryz.func46, Tryz.ntmps46
  go_wp2
  go_loopg [3, 4, 5] n (fun k v3 v4 v5 wr => ∃ i : Nat, v4 = .int .i64 i ∧ k + i = n ∧ Hid (OwnZ wr w.heap.size v3 (sortZ (xs.take i)) ∧ Below w.heap.size w wr))
  case atStart => exact ⟨0, rfl, by omega, ⟨by rw [List.take_zero, sortZ_nil]; exact ownZ_nil _ _, Below.refl _ _⟩⟩
  case round =>
    obtain ⟨i, rfl, hi, hr⟩ := hrel
    cases gk with
    | zero =>
      obtain rfl : i = n := by omega
      have h1 := hr.out.1
      rw [List.take_of_length_le (by rw [Hn.out]; exact Nat.le_refl _)] at h1
      have HF := Lib.hid (And.intro h1 hr.out.2)
      clear hi hr h1 hi0 hz0 hz1 hz2
      go_wp2
      go_ret
      exact ⟨_, rfl, HF.out.1, HF.out.2⟩
    | succ m =>
      have hin : i < n := by omega
      have hin2 : (i : Int) < n := by omega
      have hlen : i < xs.length := by rw [Hn.out]; exact hin
      obtain ⟨b, o, rfl, hcell⟩ := ints_get (ints_below HX.out hr.out.2) hlen
      have hsn : xs.take (i + 1) = xs.take i ++ [xs.getD i 0] := by rw [List.getD_eq_getElem?_getD]; exact take_snoc' hlen
      have HS := Lib.hid hsn
      have hlt : (sortZ (xs.take i)).length = i := by rw [sortZ_len, List.length_take]; omega
      have hown := hr.out.1
      unfold OwnZ at hown
      rw [hlt] at hown
      have HLT := Lib.hid hlt
      have hsz := hr.out.2.size
      clear hsn hlt
      generalize xs.getD i 0 = v at *
      go_wp2_with (at_builtin; refine wpList_append_own _ rfl _ _ 22 rfl w.heap.size 3 i0 (.int .i64 0) 1 8 Tryz.underlying22 hi0 hz0 hz1 hz2 rfl (by decide) _ _ _ rfl (hown.alloc _) ⟨wr.heap.size, 0, none⟩ 1 1 [.int .i64 v] rfl rfl (cell_one_new _ _ _) (fun x hx => by simp at hx; subst hx; rfl) (by unfold maxLen; omega) (by omega) (by simp; omega) ?_; intro v' w3 hown' hgrow hnil)
      have hown2 := ownZ_app HLT.out hown'
      have hlen2 : (sortZ (xs.take i) ++ [v]).length = i + 1 := by rw [List.length_append, HLT.out]; rfl
      obtain ⟨g, cap, e, hg, hgl, hcap⟩ := ownZ_some hown2 (by simp)
      rw [hlen2] at e hcap
      subst e
      have hB3 : Below w.heap.size w w3 := (hr.out.2.alloc hsz _).grown hgrow (by simp; omega) (fun j ej => ownZ_ge hr.out.1 j ej)
      have G3 := Lib.hid (And.intro hown2 hB3)
      clear hown' hgrow hnil hown2 hB3 hown hlen2 hcell hr hsz hi0 hz0 hz1 hz2 hgl
      go_loopg [5] i (fun k v5 wr2 => ∃ cs, v5 = .int .i64 k ∧ k ≤ i ∧ Hid (Sink (sortZ (xs.take i)) v k cs ∧ OwnZ wr2 w.heap.size (.slice (some ⟨g, 0, none⟩) (i + 1) cap) cs ∧ Below w.heap.size w wr2))
      case atStart => exact ⟨_, rfl, Nat.le_refl _, ⟨by have := sink_start (sortZ (xs.take i)) v; rw [HLT.out] at this; exact this, G3.out⟩⟩
      case round =>
        obtain ⟨cs, rfl, hk, hs⟩ := hrel
        have hcl := (sink_get hs.out.1).2
        rw [HLT.out] at hcl
        have hsv := (sink_get hs.out.1).1
        cases gk with
        | zero =>
          have HE := Lib.hid (show OwnZ wr w.heap.size (.slice (some ⟨g, 0, none⟩) (i + 1) cap) (sortZ (xs.take (i + 1))) by
            rw [HS.out, ← sink_end hs.out.1 (.inl rfl)]; exact hs.out.2.1)
          go_wp2
          go_quiet (fail)
          go_wp2
          go_roundg m
          case measure => omega
          case rel => exact ⟨i + 1, by go_num, by omega, ⟨HE.out, pw_below_drewN hs.out.2.2 _⟩⟩
        | succ k =>
          obtain ⟨c1, f1⟩ := ownZ_cell hs.out.2.1 (j := k + 1) (by omega)
          obtain ⟨c0, f0⟩ := ownZ_cell hs.out.2.1 (j := k) (by omega)
          rw [hsv] at c1
          by_cases hlt : v < cs.getD k 0
          · have HE := Lib.hid (sink_step hs.out.1 hlt)
            have hdc : decide (v < cs.getD k 0) = true := decide_eq_true hlt
            have HO1 := Lib.hid (fun y => ownZ_set (ownZ_set hs.out.2.1 (j := k + 1) (by omega) y) (j := k) (by simp; omega) v)
            generalize cs.getD k 0 = y at *
            have hk1 : (k : Int) + 1 ≤ i := by omega
            have hki : (k : Int) < i := by omega
            have hin3 : (i : Int) ≤ 4096 := by omega
            go_wp2
            go_quiet (fail)
            have d1 : (wr.drewN nq).cell? ⟨g, k + 1, none⟩ = some (.int .i64 v) := c1
            have d0 : (wr.drewN nq).cell? ⟨g, k, none⟩ = some (.int .i64 y) := c0
            have e1 : (wr.drewN nq).frozen? ⟨g, k + 1, none⟩ = false := f1
            have e0 : (wr.drewN nq).frozen? ⟨g, k, none⟩ = false := f0
            have HO2 := Lib.hid (show OwnZ (((wr.drewN nq).setCell ⟨g, k + 1, none⟩ (.int .i64 y)).setCell ⟨g, k, none⟩ (.int .i64 v)) w.heap.size (.slice (some ⟨g, 0, none⟩) (i + 1) cap) ((cs.set (k + 1) y).set k v) from
              ownZ_set (ownZ_set (ownZ_drew hs.out.2.1 nq) (j := k + 1) (by omega) y) (j := k) (by simp; omega) v)
            have HB2 := Lib.hid (((pw_below_drewN hs.out.2.2 nq).setCell (p := ⟨g, k + 1, none⟩) hg (.int .i64 y)).setCell (p := ⟨g, k, none⟩) hg (.int .i64 v))
            clear c1 c0 f1 f0 HO1
            generalize wr.drewN nq = wd at *
            clear hs hsv hdc
            go_wp2
            go_region
            go_wp2
            go_roundg k
            case measure => omega
            case rel => exact ⟨_, by go_num, by omega, ⟨HE.out, HO2.out, pw_below_drewN HB2.out 1⟩⟩
          · have HE := Lib.hid (show OwnZ wr w.heap.size (.slice (some ⟨g, 0, none⟩) (i + 1) cap) (sortZ (xs.take (i + 1))) by
              rw [HS.out, ← sink_end hs.out.1 (.inr (by rw [Nat.add_sub_cancel]; omega))]; exact hs.out.2.1)
            have hdc : decide (v < cs.getD k 0) = false := decide_eq_false hlt
            generalize cs.getD k 0 = y at *
            have hk1 : (k : Int) + 1 ≤ i := by omega
            have hki : (k : Int) < i := by omega
            have hin3 : (i : Int) ≤ 4096 := by omega
            go_wp2
            go_quiet (fail)
            go_wp2
            go_roundg m
            case measure => omega
            case rel => exact ⟨i + 1, by go_num, by omega, ⟨HE.out, pw_below_drewN hs.out.2.2 _⟩⟩
end Go.Proofs.YtdkfebfedfemaaaGreatDoor
