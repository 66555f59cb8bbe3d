/- checks; the sums that keep the first error: do, add, sub, mul, lowest. -/
import Derived.Test.YtdkfebfedfemaaaGreatDoorR1
set_option linter.unusedVariables false
set_option linter.unusedSimpArgs false
namespace Go.Proofs.YtdkfebfedfemaaaGreatDoor
open Go.RowKit Go.Mlab

/-- The first error of some rational numbers' texts. -/
def chksE : List ByteArray → Int
  | [] => 0
  | s :: r => if ratE s.data.toList = 0 then chksE r else ratE s.data.toList
set_option maxHeartbeats 1000000 in
theorem checks_calls (b o c : Nat) (ls : List ByteArray) (w : World) (hl : Texts w b o ls) (hn : ls.length ≤ c) (hs : ∀ s ∈ ls, s.size ≤ 4611686018427387904) (hn2 : ls.length ≤ 9223372036854775807) (ht : Tab w) :
    Calls Tryz.prog 71 #[.slice (some ⟨b, o, none⟩) ls.length c] w fun e w' => e = .returned (.int .i64 (chksE ls)) ∧ Below w.heap.size w w' := by
  have HL := Lib.hid (And.intro hl hs)
  have HT := Lib.hid ht
  clear hl hs ht
  obtain ⟨n, hln⟩ : ∃ n, ls.length = n := ⟨_, rfl⟩
  rw [hln] at hn hn2 ⊢
  have Hn := Lib.hid hln
  clear hln
  go_enter Tryz.func71, Tryz.ntmps71
  go_wp2
  go_loopg [8] n (fun k v8 wr => ∃ i : Nat, v8 = .int .i64 i ∧ k + i = n ∧ Hid (chksE ls = chksE (ls.drop i) ∧ Below w.heap.size w wr))
  case atStart => exact ⟨0, rfl, by omega, ⟨rfl, Below.refl _ _⟩⟩
  case round =>
    obtain ⟨i, rfl, hi, hr⟩ := hrel
    cases gk with
    | zero =>
      obtain rfl : i = n := by omega
      clear hi
      go_wp2
      go_ret
      refine ⟨?_, hr.out.2⟩
      rw [hr.out.1, ← Hn.out, List.drop_length]; rfl
    | succ m =>
      have hin : i < n := by omega
      have hc := (texts_below HL.out.1 hr.out.2).2 i (by rw [Hn.out]; exact hin)
      have hmem : ls.getD i ByteArray.empty ∈ ls := by
        rw [List.getD_eq_getElem?_getD, List.getElem?_eq_getElem (by rw [Hn.out]; exact hin)]; exact List.getElem_mem _
      have hK := Lib.hid (fun w h => rat_check_calls (ls.getD i ByteArray.empty) w (HL.out.2 _ hmem) h)
      have hd : chksE (ls.drop i) = if ratE (ls.getD i ByteArray.empty).data.toList = 0 then chksE (ls.drop (i + 1)) else ratE (ls.getD i ByteArray.empty).data.toList := by
        rw [List.drop_eq_getElem_cons (by rw [Hn.out]; exact hin), List.getD_eq_getElem?_getD, List.getElem?_eq_getElem (by rw [Hn.out]; exact hin)]; rfl
      generalize ls.getD i ByteArray.empty = s at hc hK hd
      have H0 := Lib.hid hd
      clear hd hmem
      generalize he : ratE s.data.toList = e at hK H0
      clear he
      have hin2 : (i : Int) < n := by omega
      by_cases e0 : e = 0
      · subst e0
        have H1 := Lib.hid (show chksE (ls.drop i) = chksE (ls.drop (i + 1)) by rw [H0.out, if_pos rfl])
        clear H0
        go_wp2_with (go_at_call 104; refine (hK.out _ (tab_below HT.out hr.out.2)).mono ?_; rintro e w1 ⟨rfl, hw⟩)
        go_roundg m
        case measure => omega
        case rel =>
          refine ⟨i + 1, by go_num, by omega, ⟨?_, below_below hr.out.2 hr.out.2.size hw⟩⟩
          rw [hr.out.1, H1.out]
      · go_wp2_with (go_at_call 104; refine (hK.out _ (tab_below HT.out hr.out.2)).mono ?_; rintro e w1 ⟨rfl, hw⟩)
        go_ret
        refine ⟨?_, below_below hr.out.2 hr.out.2.size hw⟩
        rw [hr.out.1, H0.out, if_neg e0]; rfl


/-- The block of the sums: the error. -/
def SumAt (w : World) (b : Nat) (e : Int) : Prop := w.heap[b]? = some (.cells #[.int .i64 e] 92 (0, 0))
theorem sumAt_cell {w : World} {b : Nat} {e : Int} (h : SumAt w b e) : w.cell? ⟨b, 0, none⟩ = some (.int .i64 e) := by
  rw [cell_of_row w b 0 _ _ _ h]; rfl
theorem sumAt_frozen {w : World} {b : Nat} {e : Int} (h : SumAt w b e) : w.frozen? ⟨b, 0, none⟩ = false := by
  unfold World.frozen?; unfold SumAt at h; rw [h]; simp
theorem sumAt_lt {w : World} {b : Nat} {e : Int} (h : SumAt w b e) : b < w.heap.size := (Array.getElem?_eq_some_iff.1 h).1
theorem sumAt_below {w w1 : World} {b : Nat} {e : Int} (h : SumAt w b e) (k : Below w.heap.size w w1) : SumAt w1 b e := (k.block b (sumAt_lt h)).trans h
theorem sumAt_set {w : World} {b : Nat} {e : Int} (h : SumAt w b e) (f : Int) : SumAt (w.setCell ⟨b, 0, none⟩ (.int .i64 f)) b f := by
  unfold SumAt
  rw [heap_setCell_same w b 0 _ _ _ h]; simp
theorem sumAt_new (w : World) : SumAt (w.alloc (.cells #[.int .i64 0] 92)) w.heap.size 0 := alloc_new w _
theorem sumAt_drewN {w : World} {b : Nat} {e : Int} (h : SumAt w b e) (n : Nat) : SumAt (w.drewN n) b e := h
/-- One operation of the sums: its value and the error behind it, if z is the exact result. -/
def stepV (e z : Int) : Int := if e = 0 ∧ fits z = true then z else 0
def stepE (e z : Int) : Int := if e = 0 then limE z else e
theorem stepV_fits (e z : Int) : fits (stepV e z) = true := by
  unfold stepV; split
  · rename_i h; exact h.2
  · exact fits_0
theorem limE_cases (z : Int) : limE z = 0 ∨ limE z = 11 := by unfold limE; split <;> simp
/-- What 'do' leaves. -/
def DoPost (b : Nat) (e z : Int) (w : World) (r : Ending) (w' : World) : Prop := r = .returned (.string (T (stepV e z))) ∧ SumAt w' b (stepE e z) ∧ Ch (· = b) w w'

set_option maxHeartbeats 1000000 in
theorem do_add (b : Nat) (e x y z : Int) (w : World) (hs : SumAt w b e)
    (hop : e = 0 → Calls Tryz.prog 113 #[.string (T x), .string (T y)] w fun r w' => r = .returned (.tuple #[.string (limT z), .int .i64 (limE z)]) ∧ Below w.heap.size w w') :
    Calls Tryz.prog 106 #[.pointer (some ⟨b, 0, none⟩), .func (.func 113) #[] #[], .string (T x), .string (T y)] w (DoPost b e z w) := by
  have c := sumAt_cell hs
  have HS := Lib.hid hs
  have H0 := Lib.hid hop
  clear hs hop
  unfold DoPost
  by_cases h : e = 0
  · subst h
    have HO := Lib.hid (H0.out rfl)
    have hfin := Lib.hid (fun w1 (h : Below w.heap.size w w1) => show SumAt (w1.setCell ⟨b, 0, none⟩ (.int .i64 (limE z))) b (stepE 0 z) ∧ Ch (· = b) w (w1.setCell ⟨b, 0, none⟩ (.int .i64 (limE z))) from
      ⟨sumAt_set (sumAt_below HS.out h) _, (Ch.of_below (S := (· = b)) h).setCell ⟨b, 0, none⟩ (.inl rfl) _⟩)
    clear H0
    cases hf : fits z with
    | true =>
      rw [limT_ok hf, limE_ok hf] at HO
      rw [limE_ok hf] at hfin
      rw [show stepV 0 z = z by unfold stepV; rw [if_pos ⟨rfl, hf⟩]]
      clear hf
      generalize T x = s at *
      generalize T y = t at *
      generalize T z = u at *
      go_enter Tryz.func106, Tryz.ntmps106
      go_wp2_with (go_at_call 113; fail)
      refine (HO.out).mono ?_
      rintro e w1 ⟨rfl, hw1⟩
      have c1 := sumAt_cell (sumAt_below HS.out hw1)
      have f1 := sumAt_frozen (sumAt_below HS.out hw1)
      have G := Lib.hid (hfin.out w1 hw1)
      go_wp2
      go_ret
      exact ⟨rfl, G.out⟩
    | false =>
      rw [limT_no hf, limE_no hf] at HO
      rw [limE_no hf] at hfin
      rw [show stepV 0 z = 0 by unfold stepV; rw [if_neg (by rw [hf]; simp)], T_zero_bytes]
      clear hf
      generalize T x = s at *
      generalize T y = t at *
      go_enter Tryz.func106, Tryz.ntmps106
      go_wp2_with (go_at_call 113; fail)
      refine (HO.out).mono ?_
      rintro e w1 ⟨rfl, hw1⟩
      have c1 := sumAt_cell (sumAt_below HS.out hw1)
      have f1 := sumAt_frozen (sumAt_below HS.out hw1)
      have G := Lib.hid (hfin.out w1 hw1)
      go_wp2
      go_ret
      exact ⟨rfl, G.out⟩
  · have hb : (e != 0) = true := by simpa using h
    rw [show stepV e z = 0 by unfold stepV; rw [if_neg (fun q => h q.1)], T_zero_bytes, show stepE e z = e by unfold stepE; rw [if_neg h]]
    clear H0 h
    generalize T x = s at *
    generalize T y = t at *
    go_enter Tryz.func106, Tryz.ntmps106
    go_wp2
    go_ret
    exact ⟨rfl, HS.out, Ch.refl _ _⟩
set_option maxHeartbeats 1000000 in
theorem do_sub (b : Nat) (e x y z : Int) (w : World) (hs : SumAt w b e)
    (hop : e = 0 → Calls Tryz.prog 181 #[.string (T x), .string (T y)] w fun r w' => r = .returned (.tuple #[.string (limT z), .int .i64 (limE z)]) ∧ Below w.heap.size w w') :
    Calls Tryz.prog 106 #[.pointer (some ⟨b, 0, none⟩), .func (.func 181) #[] #[], .string (T x), .string (T y)] w (DoPost b e z w) := by
  have c := sumAt_cell hs
  have HS := Lib.hid hs
  have H0 := Lib.hid hop
  clear hs hop
  unfold DoPost
  by_cases h : e = 0
  · subst h
    have HO := Lib.hid (H0.out rfl)
    have hfin := Lib.hid (fun w1 (h : Below w.heap.size w w1) => show SumAt (w1.setCell ⟨b, 0, none⟩ (.int .i64 (limE z))) b (stepE 0 z) ∧ Ch (· = b) w (w1.setCell ⟨b, 0, none⟩ (.int .i64 (limE z))) from
      ⟨sumAt_set (sumAt_below HS.out h) _, (Ch.of_below (S := (· = b)) h).setCell ⟨b, 0, none⟩ (.inl rfl) _⟩)
    clear H0
    cases hf : fits z with
    | true =>
      rw [limT_ok hf, limE_ok hf] at HO
      rw [limE_ok hf] at hfin
      rw [show stepV 0 z = z by unfold stepV; rw [if_pos ⟨rfl, hf⟩]]
      clear hf
      generalize T x = s at *
      generalize T y = t at *
      generalize T z = u at *
      go_enter Tryz.func106, Tryz.ntmps106
      go_wp2_with (go_at_call 181; fail)
      refine (HO.out).mono ?_
      rintro e w1 ⟨rfl, hw1⟩
      have c1 := sumAt_cell (sumAt_below HS.out hw1)
      have f1 := sumAt_frozen (sumAt_below HS.out hw1)
      have G := Lib.hid (hfin.out w1 hw1)
      go_wp2
      go_ret
      exact ⟨rfl, G.out⟩
    | false =>
      rw [limT_no hf, limE_no hf] at HO
      rw [limE_no hf] at hfin
      rw [show stepV 0 z = 0 by unfold stepV; rw [if_neg (by rw [hf]; simp)], T_zero_bytes]
      clear hf
      generalize T x = s at *
      generalize T y = t at *
      go_enter Tryz.func106, Tryz.ntmps106
      go_wp2_with (go_at_call 181; fail)
      refine (HO.out).mono ?_
      rintro e w1 ⟨rfl, hw1⟩
      have c1 := sumAt_cell (sumAt_below HS.out hw1)
      have f1 := sumAt_frozen (sumAt_below HS.out hw1)
      have G := Lib.hid (hfin.out w1 hw1)
      go_wp2
      go_ret
      exact ⟨rfl, G.out⟩
  · have hb : (e != 0) = true := by simpa using h
    rw [show stepV e z = 0 by unfold stepV; rw [if_neg (fun q => h q.1)], T_zero_bytes, show stepE e z = e by unfold stepE; rw [if_neg h]]
    clear H0 h
    generalize T x = s at *
    generalize T y = t at *
    go_enter Tryz.func106, Tryz.ntmps106
    go_wp2
    go_ret
    exact ⟨rfl, HS.out, Ch.refl _ _⟩
set_option maxHeartbeats 1000000 in
theorem do_mul (b : Nat) (e x y z : Int) (w : World) (hs : SumAt w b e)
    (hop : e = 0 → Calls Tryz.prog 107 #[.string (T x), .string (T y)] w fun r w' => r = .returned (.tuple #[.string (limT z), .int .i64 (limE z)]) ∧ Below w.heap.size w w') :
    Calls Tryz.prog 106 #[.pointer (some ⟨b, 0, none⟩), .func (.func 107) #[] #[], .string (T x), .string (T y)] w (DoPost b e z w) := by
  have c := sumAt_cell hs
  have HS := Lib.hid hs
  have H0 := Lib.hid hop
  clear hs hop
  unfold DoPost
  by_cases h : e = 0
  · subst h
    have HO := Lib.hid (H0.out rfl)
    have hfin := Lib.hid (fun w1 (h : Below w.heap.size w w1) => show SumAt (w1.setCell ⟨b, 0, none⟩ (.int .i64 (limE z))) b (stepE 0 z) ∧ Ch (· = b) w (w1.setCell ⟨b, 0, none⟩ (.int .i64 (limE z))) from
      ⟨sumAt_set (sumAt_below HS.out h) _, (Ch.of_below (S := (· = b)) h).setCell ⟨b, 0, none⟩ (.inl rfl) _⟩)
    clear H0
    cases hf : fits z with
    | true =>
      rw [limT_ok hf, limE_ok hf] at HO
      rw [limE_ok hf] at hfin
      rw [show stepV 0 z = z by unfold stepV; rw [if_pos ⟨rfl, hf⟩]]
      clear hf
      generalize T x = s at *
      generalize T y = t at *
      generalize T z = u at *
      go_enter Tryz.func106, Tryz.ntmps106
      go_wp2_with (go_at_call 107; fail)
      refine (HO.out).mono ?_
      rintro e w1 ⟨rfl, hw1⟩
      have c1 := sumAt_cell (sumAt_below HS.out hw1)
      have f1 := sumAt_frozen (sumAt_below HS.out hw1)
      have G := Lib.hid (hfin.out w1 hw1)
      go_wp2
      go_ret
      exact ⟨rfl, G.out⟩
    | false =>
      rw [limT_no hf, limE_no hf] at HO
      rw [limE_no hf] at hfin
      rw [show stepV 0 z = 0 by unfold stepV; rw [if_neg (by rw [hf]; simp)], T_zero_bytes]
      clear hf
      generalize T x = s at *
      generalize T y = t at *
      go_enter Tryz.func106, Tryz.ntmps106
      go_wp2_with (go_at_call 107; fail)
      refine (HO.out).mono ?_
      rintro e w1 ⟨rfl, hw1⟩
      have c1 := sumAt_cell (sumAt_below HS.out hw1)
      have f1 := sumAt_frozen (sumAt_below HS.out hw1)
      have G := Lib.hid (hfin.out w1 hw1)
      go_wp2
      go_ret
      exact ⟨rfl, G.out⟩
  · have hb : (e != 0) = true := by simpa using h
    rw [show stepV e z = 0 by unfold stepV; rw [if_neg (fun q => h q.1)], T_zero_bytes, show stepE e z = e by unfold stepE; rw [if_neg h]]
    clear H0 h
    generalize T x = s at *
    generalize T y = t at *
    go_enter Tryz.func106, Tryz.ntmps106
    go_wp2
    go_ret
    exact ⟨rfl, HS.out, Ch.refl _ _⟩
set_option maxHeartbeats 1000000 in
theorem do_gcd (b : Nat) (e x y z : Int) (w : World) (hs : SumAt w b e)
    (hop : e = 0 → Calls Tryz.prog 138 #[.string (T x), .string (T y)] w fun r w' => r = .returned (.tuple #[.string (limT z), .int .i64 (limE z)]) ∧ Below w.heap.size w w') :
    Calls Tryz.prog 106 #[.pointer (some ⟨b, 0, none⟩), .func (.func 138) #[] #[], .string (T x), .string (T y)] w (DoPost b e z w) := by
  have c := sumAt_cell hs
  have HS := Lib.hid hs
  have H0 := Lib.hid hop
  clear hs hop
  unfold DoPost
  by_cases h : e = 0
  · subst h
    have HO := Lib.hid (H0.out rfl)
    have hfin := Lib.hid (fun w1 (h : Below w.heap.size w w1) => show SumAt (w1.setCell ⟨b, 0, none⟩ (.int .i64 (limE z))) b (stepE 0 z) ∧ Ch (· = b) w (w1.setCell ⟨b, 0, none⟩ (.int .i64 (limE z))) from
      ⟨sumAt_set (sumAt_below HS.out h) _, (Ch.of_below (S := (· = b)) h).setCell ⟨b, 0, none⟩ (.inl rfl) _⟩)
    clear H0
    cases hf : fits z with
    | true =>
      rw [limT_ok hf, limE_ok hf] at HO
      rw [limE_ok hf] at hfin
      rw [show stepV 0 z = z by unfold stepV; rw [if_pos ⟨rfl, hf⟩]]
      clear hf
      generalize T x = s at *
      generalize T y = t at *
      generalize T z = u at *
      go_enter Tryz.func106, Tryz.ntmps106
      go_wp2_with (go_at_call 138; fail)
      refine (HO.out).mono ?_
      rintro e w1 ⟨rfl, hw1⟩
      have c1 := sumAt_cell (sumAt_below HS.out hw1)
      have f1 := sumAt_frozen (sumAt_below HS.out hw1)
      have G := Lib.hid (hfin.out w1 hw1)
      go_wp2
      go_ret
      exact ⟨rfl, G.out⟩
    | false =>
      rw [limT_no hf, limE_no hf] at HO
      rw [limE_no hf] at hfin
      rw [show stepV 0 z = 0 by unfold stepV; rw [if_neg (by rw [hf]; simp)], T_zero_bytes]
      clear hf
      generalize T x = s at *
      generalize T y = t at *
      go_enter Tryz.func106, Tryz.ntmps106
      go_wp2_with (go_at_call 138; fail)
      refine (HO.out).mono ?_
      rintro e w1 ⟨rfl, hw1⟩
      have c1 := sumAt_cell (sumAt_below HS.out hw1)
      have f1 := sumAt_frozen (sumAt_below HS.out hw1)
      have G := Lib.hid (hfin.out w1 hw1)
      go_wp2
      go_ret
      exact ⟨rfl, G.out⟩
  · have hb : (e != 0) = true := by simpa using h
    rw [show stepV e z = 0 by unfold stepV; rw [if_neg (fun q => h q.1)], T_zero_bytes, show stepE e z = e by unfold stepE; rw [if_neg h]]
    clear H0 h
    generalize T x = s at *
    generalize T y = t at *
    go_enter Tryz.func106, Tryz.ntmps106
    go_wp2
    go_ret
    exact ⟨rfl, HS.out, Ch.refl _ _⟩
set_option maxHeartbeats 1000000 in
theorem do_quo (b : Nat) (e x y z : Int) (w : World) (hs : SumAt w b e)
    (hop : e = 0 → Calls Tryz.prog 153 #[.string (T x), .string (T y)] w fun r w' => r = .returned (.tuple #[.string (limT z), .int .i64 (limE z)]) ∧ Below w.heap.size w w') :
    Calls Tryz.prog 106 #[.pointer (some ⟨b, 0, none⟩), .func (.func 153) #[] #[], .string (T x), .string (T y)] w (DoPost b e z w) := by
  have c := sumAt_cell hs
  have HS := Lib.hid hs
  have H0 := Lib.hid hop
  clear hs hop
  unfold DoPost
  by_cases h : e = 0
  · subst h
    have HO := Lib.hid (H0.out rfl)
    have hfin := Lib.hid (fun w1 (h : Below w.heap.size w w1) => show SumAt (w1.setCell ⟨b, 0, none⟩ (.int .i64 (limE z))) b (stepE 0 z) ∧ Ch (· = b) w (w1.setCell ⟨b, 0, none⟩ (.int .i64 (limE z))) from
      ⟨sumAt_set (sumAt_below HS.out h) _, (Ch.of_below (S := (· = b)) h).setCell ⟨b, 0, none⟩ (.inl rfl) _⟩)
    clear H0
    cases hf : fits z with
    | true =>
      rw [limT_ok hf, limE_ok hf] at HO
      rw [limE_ok hf] at hfin
      rw [show stepV 0 z = z by unfold stepV; rw [if_pos ⟨rfl, hf⟩]]
      clear hf
      generalize T x = s at *
      generalize T y = t at *
      generalize T z = u at *
      go_enter Tryz.func106, Tryz.ntmps106
      go_wp2_with (go_at_call 153; fail)
      refine (HO.out).mono ?_
      rintro e w1 ⟨rfl, hw1⟩
      have c1 := sumAt_cell (sumAt_below HS.out hw1)
      have f1 := sumAt_frozen (sumAt_below HS.out hw1)
      have G := Lib.hid (hfin.out w1 hw1)
      go_wp2
      go_ret
      exact ⟨rfl, G.out⟩
    | false =>
      rw [limT_no hf, limE_no hf] at HO
      rw [limE_no hf] at hfin
      rw [show stepV 0 z = 0 by unfold stepV; rw [if_neg (by rw [hf]; simp)], T_zero_bytes]
      clear hf
      generalize T x = s at *
      generalize T y = t at *
      go_enter Tryz.func106, Tryz.ntmps106
      go_wp2_with (go_at_call 153; fail)
      refine (HO.out).mono ?_
      rintro e w1 ⟨rfl, hw1⟩
      have c1 := sumAt_cell (sumAt_below HS.out hw1)
      have f1 := sumAt_frozen (sumAt_below HS.out hw1)
      have G := Lib.hid (hfin.out w1 hw1)
      go_wp2
      go_ret
      exact ⟨rfl, G.out⟩
  · have hb : (e != 0) = true := by simpa using h
    rw [show stepV e z = 0 by unfold stepV; rw [if_neg (fun q => h q.1)], T_zero_bytes, show stepE e z = e by unfold stepE; rw [if_neg h]]
    clear H0 h
    generalize T x = s at *
    generalize T y = t at *
    go_enter Tryz.func106, Tryz.ntmps106
    go_wp2
    go_ret
    exact ⟨rfl, HS.out, Ch.refl _ _⟩
end Go.Proofs.YtdkfebfedfemaaaGreatDoor
