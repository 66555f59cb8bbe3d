/- Sums and products of integers' texts: sum, Add, Sub, Mul, Compare. -/
import Derived.Test.YtdkfebfedfemaaaGreatDoorC4
import Derived.Handy
set_option linter.unusedVariables false
set_option linter.unusedSimpArgs false
namespace Go.Proofs.YtdkfebfedfemaaaGreatDoor
open Go.RowKit Go.Mlab

theorem fits_lt {z : Int} : fits z = true ↔ z.natAbs < LIM := by unfold fits; rw [decide_eq_true_iff]
theorem fits_neg (z : Int) : fits (-z) = fits z := by unfold fits; rw [Int.natAbs_neg]
theorem LIM_le_BB (m : Nat) (h : 1024 ≤ 9 * m) : (LIM : Int) ≤ BB m := by
  rw [BB_pow]
  exact Int.ofNat_le.2 (LIM_le_pow h)
theorem LIM_le : (LIM : Int) ≤ BB 114 := LIM_le_BB 114 (by decide)
theorem z_abs (x : Wide) (h : WideOk x) : (x.z.natAbs : Int) = x.m := by
  have := h.nonneg
  unfold Wide.z; split <;> omega
theorem fits_n {x : Wide} (h : WideOk x) (hz : fits x.z = true) : x.n ≤ 114 := by
  have h1 := fits_lt.1 hz
  have h2 := z_abs x h
  have h3 := LIM_le
  exact h.n_le (by omega)
theorem wide_text_size {x : Wide} (h : WideOk x) : (T x.z).size ≤ 2089 := by
  rw [T_size, itoa_len]
  have h1 : Lib.nDigits x.z.natAbs ≤ 2088 := by
    refine (nDigits_le (by decide)).2 ?_
    have h2 := z_abs x h
    have h3 := h.lt
    have h4 := BB_mono h.le
    rw [BB_pow 232] at h4
    rw [show 2088 = 9 * 232 from rfl]
    generalize 10 ^ (9 * 232) = p at h4 ⊢
    omega
  split <;> omega
theorem fits_size {z : Int} (h : fits z = true) : (T z).size ≤ 1025 := by rw [T_size]; exact fits_len h
theorem allE_ok {zs : List Int} (h : ∀ z ∈ zs, fits z = true) : allE (zs.map T) = 0 := by
  induction zs with
  | nil => rfl
  | cons z r ih =>
    show (if chkL (T z).data.toList = 0 then _ else _) = 0
    have e : chkL (T z).data.toList = 0 := by
      rw [show (T z).data.toList = Lib.itoa z from rfl, chkL_itoa, h z List.mem_cons_self]; rfl
    rw [if_pos e]; exact ih (fun z hz => h z (List.mem_cons_of_mem _ hz))
theorem all_ok (b o c : Nat) (zs : List Int) (w : World) (hl : Texts w b o (zs.map T)) (hn : zs.length ≤ c) (hs : ∀ z ∈ zs, fits z = true) (hn2 : zs.length ≤ 9223372036854775807) :
    Calls Tryz.prog 108 #[.slice (some ⟨b, o, none⟩) zs.length c] w fun e w' => e = .returned (.int .i64 0) ∧ Below w.heap.size w w' := by
  have := all_calls b o c (zs.map T) w hl (by simpa using hn) (by
    intro s hs'
    obtain ⟨z, hz, rfl⟩ := List.mem_map.1 hs'
    have := fits_size (hs z hz); omega) (by simpa using hn2)
  rw [List.length_map, allE_ok hs] at this
  exact this
theorem texts_new2 (w : World) (s t : ByteArray) (ty : TypeId) : Texts (w.alloc (.cells #[.string s, .string t] ty)) w.heap.size 0 [s, t] := by
  refine ⟨by simp, fun j hj => ?_⟩
  rw [cell_of_row _ _ _ _ _ _ (alloc_new w _)]
  match j, hj with
  | 0, _ => rfl
  | 1, _ => rfl
theorem all2_ok (a b : Int) (w : World) (ty : TypeId) (ha : fits a = true) (hb : fits b = true) :
    Calls Tryz.prog 108 #[.slice (some ⟨w.heap.size, 0, none⟩) 2 2] (w.alloc (.cells #[.string (T a), .string (T b)] ty)) fun e w' => e = .returned (.int .i64 0) ∧ Below w.heap.size w w' := by
  refine (all_ok w.heap.size 0 2 [a, b] _ (texts_new2 w _ _ ty) (Nat.le_refl 2) (by
    intro z hz; simp at hz; rcases hz with rfl | rfl
    · exact ha
    · exact hb) (show 2 ≤ 9223372036854775807 by decide)).mono ?_
  rintro e w' ⟨rfl, h⟩
  exact ⟨rfl, ((Below.refl w.heap.size w).alloc (Nat.le_refl _) _).trans (h.mono (by simp))⟩

/-- The sum of integers. -/
def isum : List Int → Int
  | [] => 0
  | z :: r => z + isum r
theorem isum_append (a b : List Int) : isum (a ++ b) = isum a + isum b := by
  induction a with
  | nil => simp [isum]
  | cons x a ih => simp only [List.cons_append, isum, ih]; omega
theorem isum_take_succ (zs : List Int) (i : Nat) (h : i < zs.length) : isum (zs.take (i + 1)) = isum (zs.take i) + zs.getD i 0 := by
  rw [List.take_succ_eq_append_getElem h, isum_append, List.getD_eq_getElem?_getD, List.getElem?_eq_getElem h]
  simp [isum]
theorem isum_bound (zs : List Int) (hs : ∀ z ∈ zs, fits z = true) (i : Nat) : ((isum (zs.take i)).natAbs : Int) ≤ (zs.take i).length * (LIM : Int) := by
  have key : ∀ l : List Int, (∀ z ∈ l, fits z = true) → ((isum l).natAbs : Int) ≤ l.length * (LIM : Int) := by
    intro l
    induction l with
    | nil => intro _; simp [isum]
    | cons z r ih =>
      intro h
      have h1 := ih (fun z hz => h z (List.mem_cons_of_mem _ hz))
      have h2 := fits_lt.1 (h z List.mem_cons_self)
      have h3 : ((r.length + 1 : Nat) : Int) * (LIM : Int) = r.length * LIM + LIM := by rw [Int.natCast_add, Int.add_mul]; simp
      rw [List.length_cons, h3]
      simp only [isum]
      omega
  exact key _ (fun z hz => hs z (List.mem_of_mem_take hz))
theorem sum_room {zs : List Int} (hn2 : zs.length ≤ 1000000000) {i : Nat} (hs : ∀ z ∈ zs, fits z = true) (hi : i < zs.length) {x y : Wide} (hx : WideOk x) (hy : WideOk y)
    (ex : x.z = isum (zs.take i)) (ey : fits y.z = true) : x.m + y.m < BB 232 := by
  have h1 := isum_bound zs hs i
  have h2 := z_abs x hx
  have h3 := z_abs y hy
  have h4 := fits_lt.1 ey
  rw [List.length_take, Nat.min_eq_left (by omega)] at h1
  rw [ex] at h2
  have h5 : (i : Int) * LIM ≤ 1000000000 * LIM := Int.mul_le_mul_of_nonneg_right (by omega) (by omega)
  have h6 : BB 232 = BB 117 * (1000000000 * BB 114) := by
    rw [← BB_succ, ← BB_add]
  have h7 := LIM_le
  have h8 : (1000000000 : Int) ^ 1 ≤ BB 117 := by
    have := BB_mono (show 1 ≤ 117 by decide); exact this
  have h9 := BB_pos 114
  have h10 : (1000000000 : Int) * (1000000000 * BB 114) ≤ BB 117 * (1000000000 * BB 114) := Int.mul_le_mul_of_nonneg_right (by simpa using h8) (by omega)
  omega

set_option maxRecDepth 100000 in
set_option maxHeartbeats 1000000 in
theorem sum_calls (b o c : Nat) (zs : List Int) (w : World) (hl : Texts w b o (zs.map T)) (hn : zs.length ≤ c) (hs : ∀ z ∈ zs, fits z = true) (hn2 : zs.length ≤ 1000000000) (ht : Tab w) :
    Calls Tryz.prog 148 #[.slice (some ⟨b, o, none⟩) zs.length c] w fun e w' => e = .returned (lim (isum zs)) ∧ Below w.heap.size w w' := by
  have HL := Lib.hid (And.intro hl (And.intro hs (And.intro ht hn2)))
  clear hl hs ht
  obtain ⟨n, hln⟩ : ∃ n, zs.length = n := ⟨_, rfl⟩
  rw [hln] at hn hn2 ⊢
  have Hn := Lib.hid hln
  clear hln
  go_enter Tryz.func148, Tryz.ntmps148
  go_wp2
  go_loopg [11] n (fun k v11 wr => ∃ i : Nat, v11 = .int .i64 i ∧ k + i = n ∧ Hid (∃ x, WideAt wr w.heap.size x ∧ WideOk x ∧ x.z = isum (zs.take i) ∧ Below w.heap.size w wr ∧ w.heap.size < wr.heap.size))
  case atStart => exact ⟨0, rfl, by omega, ⟨_, wideAt_new0 w, wideOk_zero _, rfl, (Below.refl _ _).alloc (Nat.le_refl _) _, by simp⟩⟩
  case round =>
    obtain ⟨i, rfl, hi, hr⟩ := hrel
    cases gk with
    | zero =>
      obtain rfl : i = n := by omega
      clear hi
      have hK := Lib.hid (show Calls Tryz.prog 144 #[.pointer (some ⟨w.heap.size, 0, none⟩)] wr fun e w' => e = .returned (lim (isum zs)) ∧ Below wr.heap.size wr w' by
        obtain ⟨x, h1, h2, h3, h4, h5⟩ := hr.out
        rw [← Hn.out, List.take_length] at h3
        rw [← h3]
        exact limited_calls w.heap.size x wr h1 h2 (tab_below HL.out.2.2.1 h4) (by have := wide_text_size h2; omega))
      have hB := Lib.hid (show Below w.heap.size w wr ∧ w.heap.size ≤ wr.heap.size by obtain ⟨x, h1, h2, h3, h4, h5⟩ := hr.out; exact ⟨h4, Nat.le_of_lt h5⟩)
      go_wp2_with (go_at_call 144; refine (hK.out).mono ?_; rintro e w3 ⟨rfl, hw3⟩)
      go_ret2
      exact ⟨rfl, below_below hB.out.1 hB.out.2 hw3⟩
    | succ m =>
      have hin : i < n := by omega
      have hin2 : (i : Int) < n := by omega
      have hB := Lib.hid (show Below w.heap.size w wr ∧ w.heap.size < wr.heap.size by obtain ⟨x, h1, h2, h3, h4, h5⟩ := hr.out; exact ⟨h4, h5⟩)
      have hlen : i < zs.length := by rw [Hn.out]; exact hin
      have hc : wr.cell? ⟨b, o + i, none⟩ = some (.string (T (zs.getD i 0))) := by
        have := (texts_below HL.out.1 hB.out.1).2 i (by rw [List.length_map]; exact hlen)
        rw [List.getD_eq_getElem?_getD, List.getElem?_map, List.getElem?_eq_getElem hlen] at this
        rw [List.getD_eq_getElem?_getD, List.getElem?_eq_getElem hlen]
        exact this
      have hmem : zs.getD i 0 ∈ zs := by
        rw [List.getD_eq_getElem?_getD, List.getElem?_eq_getElem hlen]; exact List.getElem_mem _
      have hf := HL.out.2.1 _ hmem
      have hR := Lib.hid (read_calls (zs.getD i 0) wr hf)
      have hS := Lib.hid (fun e w3 (h : NewWide wr (zs.getD i 0) e w3) => show ∃ d, e = .returned (.pointer (some ⟨d, 0, none⟩)) ∧ Hid (Calls Tryz.prog 173 #[.pointer (some ⟨w.heap.size, 0, none⟩), .pointer (some ⟨d, 0, none⟩)] w3 fun e w' =>
          e = .returned (.tuple #[]) ∧ ∃ x, WideAt w' w.heap.size x ∧ WideOk x ∧ x.z = isum (zs.take (i + 1)) ∧ Below w.heap.size w w' ∧ w.heap.size < w'.heap.size) by
        obtain ⟨x, h1, h2, h3, h4, h5⟩ := hr.out
        obtain ⟨d, z, rfl, g1, g2, g3, g4, g5⟩ := h
        refine ⟨d, rfl, Lib.hid ?_⟩
        refine (plus_calls w.heap.size d x z w3 (by omega) (wideAt_below h1 g5) g2 h2 g3 (sum_room (by rw [Hn.out]; exact hn2) HL.out.2.1 hlen h2 g3 h3 (by rw [g4]; exact hf))).mono ?_
        rintro e w4 ⟨rfl, y, k1, k2, k3, k4⟩
        refine ⟨rfl, y, k1, k2, ?_, ?_, ?_⟩
        · rw [k3, h3, g4, isum_take_succ zs i hlen]
        · exact below_ch (below_below h4 (Nat.le_of_lt h5) g5) (Nat.le_trans (Nat.le_of_lt h5) g5.size) k4 (fun j hj => by omega)
        · exact Nat.lt_of_lt_of_le (Nat.lt_of_lt_of_le h5 g5.size) k4.size)
      generalize T (zs.getD i 0) = s at hc hR
      go_wp2_with (go_at_call 142; refine (hR.out).mono ?_; intro e w3 h3; obtain ⟨d, rfl, hP⟩ := hS.out _ _ h3; clear h3)
      go_wp2_with (go_at_call 173; refine (hP.out).mono ?_; rintro e w4 ⟨rfl, hnew⟩; have HN := Lib.hid hnew; clear hnew)
      go_roundg m
      case measure => omega
      case rel => exact ⟨i + 1, by go_num, by omega, HN⟩

theorem short_bound {a : Int} (h : (T a).size ≤ 9) : -1000000000 < a ∧ a < 1000000000 := by
  rw [T_size, itoa_len] at h
  have h1 : Lib.nDigits a.natAbs ≤ 9 := by split at h <;> omega
  have h2 := (nDigits_le (by decide)).1 h1
  have h3 : (10 : Nat) ^ 9 = 1000000000 := rfl
  omega
theorem lim_small {z : Int} (h0 : -9223372036854775808 ≤ z) (h1 : z ≤ 9223372036854775807) : lim z = .tuple #[.string (T z), .int .i64 0] := by
  have : fits z = true := by
    have h3 : (10 : Nat) ^ 19 = 10000000000000000000 := rfl
    exact fits_19 (by omega)
  unfold lim; rw [limT_ok this, limE_ok this]
set_option maxHeartbeats 1000000 in
theorem add_calls (a b : Int) (w : World) (ha : fits a = true) (hb : fits b = true) (ht : Tab w) :
    Calls Tryz.prog 113 #[.string (T a), .string (T b)] w fun e w' => e = .returned (lim (a + b)) ∧ Below w.heap.size w w' := by
  have HA := Lib.hid (all2_ok a b w 84 ha hb)
  have HT := Lib.hid ht
  clear ht
  by_cases hs : (T a).size ≤ 9 ∧ (T b).size ≤ 9
  · have h1 := short_bound hs.1
    have h2 := short_bound hs.2
    rw [lim_small (by omega) (by omega)]
    have HS := Lib.hid (fun w => small_short a b w hs.1 hs.2)
    have HR := Lib.hid (fun w h => result_calls (a + b) (by omega) (by omega) w h)
    clear ha hb hs
    generalize T a = s at *
    generalize T b = t at *
    go_enter Tryz.func113, Tryz.ntmps113
    go_wp2_with (go_at_call 108; refine (HA.out).mono ?_; rintro e w1 ⟨rfl, hw1⟩)
    go_wp2_with (go_at_call 140; refine (HS.out _).mono ?_; rintro e w2 ⟨rfl, hw2⟩)
    have hB := below_below hw1 hw1.size hw2
    go_wp2_with (go_at_call 141; refine (HR.out _ (tab_below HT.out hB)).mono ?_; rintro e w3 ⟨rfl, hw3⟩)
    go_ret2
    exact ⟨rfl, below_below hB hB.size hw3⟩
  · have HS := Lib.hid (fun w => small_long a b w (by have := fits_size ha; omega) (by have := fits_size hb; omega) hs)
    have HU := Lib.hid (fun w h => sum_calls w.heap.size 0 2 [a, b] (w.alloc (.cells #[.string (T a), .string (T b)] 84)) (texts_new2 w _ _ _) (Nat.le_refl 2) (by
      intro z hz; simp at hz; rcases hz with rfl | rfl
      · exact ha
      · exact hb) (show 2 ≤ 1000000000 by decide) h)
    rw [show isum [a, b] = a + b by simp [isum]] at HU
    clear ha hb hs
    generalize T a = s at *
    generalize T b = t at *
    go_enter Tryz.func113, Tryz.ntmps113
    go_wp2_with (go_at_call 108; refine (HA.out).mono ?_; rintro e w1 ⟨rfl, hw1⟩)
    go_wp2_with (go_at_call 140; refine (HS.out _).mono ?_; rintro e w2 ⟨rfl, rfl⟩)
    have hB := (Below.refl w2.heap.size w2).alloc (Nat.le_refl _) (.cells #[.string s, .string t] 84)
    go_wp2_with (go_at_call 148; refine (HU.out _ (tab_below HT.out (hw1.trans (hB.mono hw1.size)))).mono ?_; rintro e w3 ⟨rfl, hw3⟩)
    go_ret2
    exact ⟨rfl, below_below hw1 hw1.size (hB.trans (hw3.mono (by simp)))⟩
end Go.Proofs.YtdkfebfedfemaaaGreatDoor
