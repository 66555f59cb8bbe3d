/- capability: Histogram. -/
import Derived.Test.YtdkfebfedfemaaaGreatDoorK5
import Derived.Laws.MakeOwn
set_option linter.unusedVariables false
set_option linter.unusedSimpArgs false
namespace Go.Proofs.YtdkfebfedfemaaaGreatDoor
open Go.RowKit Go.Mlab

/-- A whole block of ints. -/
def IntRow (w : World) (b : Nat) (cs : List Int) : Prop := w.heap[b]? = some (.cells (cs.map (Value.int .i64)).toArray 3 (0, 0))
theorem intRow_lt {w : World} {b : Nat} {cs : List Int} (h : IntRow w b cs) : b < w.heap.size := (Array.getElem?_eq_some_iff.1 h).1
theorem intRow_cell {w : World} {b : Nat} {cs : List Int} (h : IntRow w b cs) {i : Nat} (hi : i < cs.length) : w.cell? ⟨b, i, none⟩ = some (.int .i64 (cs.getD i 0)) := by
  rw [cell_of_row w b i _ _ _ h]
  simp only [List.getElem?_toArray, List.getElem?_map, List.getD_eq_getElem?_getD, List.getElem?_eq_getElem hi]
  rfl
theorem intRow_frozen {w : World} {b : Nat} {cs : List Int} (h : IntRow w b cs) (i : Nat) : w.frozen? ⟨b, i, none⟩ = false := by
  unfold World.frozen?; unfold IntRow at h; rw [h]; simp
theorem intRow_set {w : World} {b : Nat} {cs : List Int} (h : IntRow w b cs) (i : Nat) (v : Int) : IntRow (w.setCell ⟨b, i, none⟩ (.int .i64 v)) b (cs.set i v) := by
  unfold IntRow
  rw [heap_setCell_same w b i _ _ _ h]
  simp
theorem int_info : ∃ i, Tryz.prog.info? 3 = some i ∧ i.zero = some (.int .i64 0) ∧ i.size = 1 ∧ i.bytes = 8 := by
  have h : (Tryz.prog.info? 3).map (fun i => (i.zero, i.size, i.bytes)) = some (some (.int .i64 0), 1, 8) := by kernel_rfl
  cases e : Tryz.prog.info? 3 with
  | none => rw [e] at h; cases h
  | some i =>
    rw [e] at h
    simp at h
    exact ⟨i, rfl, h.1, h.2.1, h.2.2⟩
/-- The bin of a value: 0 below, the last one above. -/
def bin (lo wd bins v : Int) : Int := if lo ≤ v then min ((v - lo) / wd) bins + 1 else 0
/-- How many values are in a bin. -/
def cnt (lo wd bins : Int) (xs : List Int) (k : Nat) : Int := ((xs.filter fun v => decide (bin lo wd bins v = (k : Int))).length : Int)
def cnts (lo wd : Int) (bins : Nat) (xs : List Int) : List Int := (List.range (bins + 2)).map (cnt lo wd bins xs)
theorem cnts_len (lo wd : Int) (bins : Nat) (xs : List Int) : (cnts lo wd bins xs).length = bins + 2 := by unfold cnts; simp
theorem cnts_get (lo wd : Int) (bins : Nat) (xs : List Int) {k : Nat} (hk : k < bins + 2) : (cnts lo wd bins xs).getD k 0 = cnt lo wd bins xs k := by
  unfold cnts
  rw [List.getD_eq_getElem?_getD, List.getElem?_map, List.getElem?_range hk]; rfl
theorem bin_range {lo wd v : Int} {bins : Nat} (hw : 0 < wd) : 0 ≤ bin lo wd bins v ∧ bin lo wd bins v ≤ bins + 1 := by
  unfold bin
  split
  · rename_i h
    have := Int.ediv_nonneg (show 0 ≤ v - lo by omega) (Int.le_of_lt hw)
    omega
  · omega
theorem cnt_snoc (lo wd bins : Int) (xs : List Int) (v : Int) (k : Nat) : cnt lo wd bins (xs ++ [v]) k = cnt lo wd bins xs k + if bin lo wd bins v = k then 1 else 0 := by
  unfold cnt
  rw [List.filter_append, List.length_append]
  by_cases h : bin lo wd bins v = k
  · rw [if_pos h, List.filter_cons_of_pos (by simpa using h)]; simp
  · rw [if_neg h, List.filter_cons_of_neg (by simpa using h)]; simp
theorem cnts_snoc (lo wd : Int) (bins : Nat) (xs : List Int) (v : Int) {k : Nat} (hk : bin lo wd bins v = k) : (cnts lo wd bins xs).set k ((cnts lo wd bins xs).getD k 0 + 1) = cnts lo wd bins (xs ++ [v]) := by
  apply List.ext_getElem
  · simp [cnts]
  · intro j h1 h2
    rw [cnts_len] at h2
    have hj : j < (cnts lo wd bins xs).length := by rw [cnts_len]; exact h2
    rw [List.getElem_set]
    have e1 : (cnts lo wd bins (xs ++ [v]))[j]'(by rw [cnts_len]; exact h2) = cnt lo wd bins (xs ++ [v]) j := by rw [← cnts_get lo wd bins (xs ++ [v]) h2, List.getD_eq_getElem?_getD, List.getElem?_eq_getElem (by rw [cnts_len]; exact h2)]; rfl
    have e2 : (cnts lo wd bins xs)[j]'hj = cnt lo wd bins xs j := by rw [← cnts_get lo wd bins xs h2, List.getD_eq_getElem?_getD, List.getElem?_eq_getElem hj]; rfl
    rw [e1, cnt_snoc, hk]
    by_cases h : k = j
    · subst h
      rw [if_pos rfl, if_pos rfl, cnts_get _ _ _ _ h2]
    · rw [if_neg h, if_neg (by omega), e2]; omega

theorem make_zero (n : Nat) : (madeCells (Value.int .i64 0).cells (n * 1)).toList = (List.replicate n (0 : Int)).map (Value.int .i64) := by
  apply List.ext_getElem
  · simp [madeCells]
  · intro j h1 h2
    simp [madeCells, Value.cells, Nat.mod_one]
theorem cnts_nil (lo wd : Int) (bins : Nat) : cnts lo wd bins [] = List.replicate (bins + 2) 0 := by
  apply List.ext_getElem
  · simp [cnts]
  · intro j h1 h2
    have hj : j < bins + 2 := by simpa using h2
    rw [List.getElem_replicate]
    have := cnts_get lo wd bins [] hj
    rw [List.getD_eq_getElem?_getD, List.getElem?_eq_getElem h1] at this
    show _ = _
    exact this
theorem intRow_owned {w : World} {base b n : Nat} {cs : List Int} (h : w.ownsRow base 3 1 (.slice (some ⟨b, 0, none⟩) n n) n (cs.map (Value.int .i64))) (hn : cs.length = n) (h0 : 0 < n) : IntRow w b cs ∧ base ≤ b := by
  obtain ⟨h1, h2⟩ := h
  rcases h2 with ⟨h2, _⟩ | ⟨g, cap, cur, e, hb, hc, q1, q2, q3, q4⟩
  · cases h2
  · cases e
    refine ⟨?_, hb⟩
    unfold IntRow
    rw [hc]
    congr 2
    rw [Nat.mul_one] at q3 q4
    rw [← q4, List.take_of_length_le (by rw [Array.length_toList]; omega)]
/-- The number of the error of a histogram. -/
def hisE (xs : List Int) (lo wd bins : Int) : Int := if serE xs ≠ 0 then serE xs else if inB lo = false ∨ wd < 1 ∨ 1048576 < wd ∨ bins < 1 ∨ 256 < bins then 2 else 0
/-- What Histogram answers. -/
def HisPost (xs : List Int) (lo wd bins : Int) (w : World) (e : Ending) (w' : World) : Prop :=
  (hisE xs lo wd bins ≠ 0 → e = .returned (.tuple #[.slice none 0 0, .int .i64 0, .int .i64 0, .int .i64 (hisE xs lo wd bins)])) ∧
  (hisE xs lo wd bins = 0 → ∃ b, e = .returned (.tuple #[.slice (some ⟨b, 1, none⟩) bins.toNat (bins.toNat + 1), .int .i64 (cnt lo wd bins xs 0), .int .i64 (cnt lo wd bins xs (bins.toNat + 1)), .int .i64 0]) ∧ w.heap.size ≤ b ∧ IntRow w' b (cnts lo wd bins.toNat xs)) ∧
  Below w.heap.size w w'
set_option maxRecDepth 100000 in
set_option maxHeartbeats 2000000 in
theorem his_calls (A : Option Addr) (c : Nat) (xs : List Int) (lo wd bins : Int) (w : World) (hx : IntsAt w A c xs) :
    Calls Tryz.prog 24 #[.slice A xs.length c, .int .i64 lo, .int .i64 wd, .int .i64 bins] w (HisPost xs lo wd bins w) := by
  have HC := Lib.hid (cap_check_calls A c xs w hx)
  have HI := Lib.hid (fun w => in_calls lo w)
  have HX := Lib.hid hx
  have hbig := hx.big
  clear hx
  by_cases hs0 : serE xs = 0
  · rw [hs0] at HC
    cases hi : inB lo with
    | false =>
      rw [hi] at HI
      have hE : hisE xs lo wd bins = 2 := by unfold hisE; rw [hs0, if_neg (by decide), if_pos (by simp [*])]
      have hfin := Lib.hid (show HisPost xs lo wd bins w (.returned (.tuple #[.slice none 0 0, .int .i64 0, .int .i64 0, .int .i64 2])) w from
        ⟨fun _ => by rw [hE], fun h => absurd (hE.symm.trans h) (by decide), Below.refl _ _⟩)
      clear hE
      go_enter Tryz.func24, Tryz.ntmps24
      go_wp2_with (go_at_call 18; refine (HC.out).mono ?_; rintro e w1 ⟨rfl, rfl⟩)
      go_wp2_with (go_at_call 49; refine (HI.out _).mono ?_; rintro e w1 ⟨rfl, rfl⟩)
      go_returns
      exact hfin.out
    | true =>
     rw [hi] at HI
     have hlo := inB_iff.1 hi
     by_cases b1 : wd < 1
     · skip
       have hE : hisE xs lo wd bins = 2 := by unfold hisE; rw [hs0, if_neg (by decide), if_pos (by simp [*])]
       have hfin := Lib.hid (show HisPost xs lo wd bins w (.returned (.tuple #[.slice none 0 0, .int .i64 0, .int .i64 0, .int .i64 2])) w from
         ⟨fun _ => by rw [hE], fun h => absurd (hE.symm.trans h) (by decide), Below.refl _ _⟩)
       clear hE
       go_enter Tryz.func24, Tryz.ntmps24
       go_wp2_with (go_at_call 18; refine (HC.out).mono ?_; rintro e w1 ⟨rfl, rfl⟩)
       go_wp2_with (go_at_call 49; refine (HI.out _).mono ?_; rintro e w1 ⟨rfl, rfl⟩)
       go_returns
       exact hfin.out
     by_cases b2 : 1048576 < wd
     · skip
       have hE : hisE xs lo wd bins = 2 := by unfold hisE; rw [hs0, if_neg (by decide), if_pos (by simp [*])]
       have hfin := Lib.hid (show HisPost xs lo wd bins w (.returned (.tuple #[.slice none 0 0, .int .i64 0, .int .i64 0, .int .i64 2])) w from
         ⟨fun _ => by rw [hE], fun h => absurd (hE.symm.trans h) (by decide), Below.refl _ _⟩)
       clear hE
       go_enter Tryz.func24, Tryz.ntmps24
       go_wp2_with (go_at_call 18; refine (HC.out).mono ?_; rintro e w1 ⟨rfl, rfl⟩)
       go_wp2_with (go_at_call 49; refine (HI.out _).mono ?_; rintro e w1 ⟨rfl, rfl⟩)
       go_returns
       exact hfin.out
     by_cases b3 : bins < 1
     · skip
       have hE : hisE xs lo wd bins = 2 := by unfold hisE; rw [hs0, if_neg (by decide), if_pos (by simp [*])]
       have hfin := Lib.hid (show HisPost xs lo wd bins w (.returned (.tuple #[.slice none 0 0, .int .i64 0, .int .i64 0, .int .i64 2])) w from
         ⟨fun _ => by rw [hE], fun h => absurd (hE.symm.trans h) (by decide), Below.refl _ _⟩)
       clear hE
       go_enter Tryz.func24, Tryz.ntmps24
       go_wp2_with (go_at_call 18; refine (HC.out).mono ?_; rintro e w1 ⟨rfl, rfl⟩)
       go_wp2_with (go_at_call 49; refine (HI.out _).mono ?_; rintro e w1 ⟨rfl, rfl⟩)
       go_returns
       exact hfin.out
     by_cases b4 : 256 < bins
     · skip
       have hE : hisE xs lo wd bins = 2 := by unfold hisE; rw [hs0, if_neg (by decide), if_pos (by simp [*])]
       have hfin := Lib.hid (show HisPost xs lo wd bins w (.returned (.tuple #[.slice none 0 0, .int .i64 0, .int .i64 0, .int .i64 2])) w from
         ⟨fun _ => by rw [hE], fun h => absurd (hE.symm.trans h) (by decide), Below.refl _ _⟩)
       clear hE
       go_enter Tryz.func24, Tryz.ntmps24
       go_wp2_with (go_at_call 18; refine (HC.out).mono ?_; rintro e w1 ⟨rfl, rfl⟩)
       go_wp2_with (go_at_call 49; refine (HI.out _).mono ?_; rintro e w1 ⟨rfl, rfl⟩)
       go_returns
       exact hfin.out
     obtain ⟨nb, rfl⟩ : ∃ nb : Nat, bins = nb := ⟨bins.toNat, by omega⟩
     have hE : hisE xs lo wd nb = 0 := by unfold hisE; rw [hs0, if_neg (by decide), if_neg (by rw [hi]; simp; omega)]
     have hv := (serE_ok hs0).2.2
     have hfin := Lib.hid (fun b w' (h1 : w.heap.size ≤ b) (h2 : IntRow w' b (cnts lo wd nb xs)) (h3 : Below w.heap.size w w') =>
       show HisPost xs lo wd nb w (.returned (.tuple #[.slice (some ⟨b, 1, none⟩) nb (nb + 1), .int .i64 (cnt lo wd nb xs 0), .int .i64 (cnt lo wd nb xs (nb + 1)), .int .i64 0])) w' from
         ⟨fun h => absurd hE h, fun _ => ⟨b, rfl, h1, h2⟩, h3⟩)
     have HV := Lib.hid hv
     clear hE hs0 hi hv
     obtain ⟨n, hln⟩ : ∃ n, xs.length = n := ⟨_, rfl⟩
     rw [hln] at hbig HC ⊢
     have Hn := Lib.hid hln
     clear hln
     go_enter Tryz.func24, Tryz.ntmps24
     go_wp2_with (go_at_call 18; refine (HC.out).mono ?_; rintro e w1 ⟨rfl, rfl⟩)
     obtain ⟨i0, hi0, hz0, hz1, hz2⟩ := int_info
     go_wp2_with (first | (go_at_call 49; refine (HI.out _).mono ?_; rintro e w2 ⟨rfl, rfl⟩) | (at_make; refine wpList_make_full _ rfl (.tmp 42) (.tmp 42) 22 rfl _ 3 i0 (.int .i64 0) 1 Tryz.underlying22 hi0 hz0 hz1 .i64 .i64 _ _ (nb + 2) rfl rfl (by omega) (by omega) (by rw [hz2]; omega) (by unfold maxLen; omega) (Nat.le_refl _) ?_; intro w0 hown hgrow))
     rw [make_zero, ← cnts_nil lo wd nb] at hown
     have hrow := intRow_owned hown (cnts_len _ _ _ _) (by omega)
     have hB0 : Below w2.heap.size w2 w0 := (Below.refl _ w2).grown hgrow (Nat.le_refl _) (fun k h => by cases h)
     obtain ⟨B, hBe⟩ : ∃ B, w2.heap.size = B := ⟨_, rfl⟩
     have G0 := Lib.hid (show IntRow w0 B (cnts lo wd nb []) ∧ Below w2.heap.size w2 w0 ∧ w2.heap.size ≤ B by rw [← hBe]; exact ⟨hrow.1, hB0, Nat.le_refl _⟩)
     rw [hBe]
     clear hown hgrow hrow hB0 hBe hi0 hz0 hz1 hz2 HC HI
     go_wp2
     go_loopg [46] n (fun k v46 wr => ∃ i : Nat, v46 = .int .i64 i ∧ k + i = n ∧ Hid (IntRow wr B (cnts lo wd nb (xs.take i)) ∧ Below w2.heap.size w2 wr ∧ w2.heap.size ≤ B))
     case atStart => exact ⟨0, rfl, by omega, G0.out⟩
     case round =>
       obtain ⟨i, rfl, hi, hr⟩ := hrel
       cases gk with
       | zero =>
         obtain rfl : i = n := by omega
         clear hi
         have e : xs.take i = xs := by rw [← Hn.out, List.take_length]
         rw [e] at hr
         have c0 := intRow_cell hr.out.1 (i := 0) (by rw [cnts_len]; omega)
         have c1 := intRow_cell hr.out.1 (i := nb + 1) (by rw [cnts_len]; omega)
         rw [cnts_get _ _ _ _ (by omega)] at c0 c1
         have HF := Lib.hid (hfin.out B wr hr.out.2.2 hr.out.1 hr.out.2.1)
         have hHF := Lib.hid (fun q => hfin.out B (wr.drewN q) hr.out.2.2 hr.out.1 (pw_below_drewN hr.out.2.1 q))
         generalize cnt lo wd nb xs 0 = x0 at *
         generalize cnt lo wd nb xs (nb + 1) = x1 at *
         go_wp2
         go_quiet (fail)
         go_wp2
         go_returns
         exact hHF.out nq
       | succ m =>
         have hin : i < n := by omega
         have hin2 : (i : Int) < n := by omega
         have hlen : i < xs.length := by rw [Hn.out]; exact hin
         obtain ⟨b, o, rfl, hc⟩ := ints_get (ints_below HX.out hr.out.2.1) hlen
         have hvr := HV.out _ (getD_mem hlen)
         have hsn : xs.take (i + 1) = xs.take i ++ [xs.getD i 0] := by
           rw [List.take_succ_eq_append_getElem hlen, List.getD_eq_getElem?_getD, List.getElem?_eq_getElem hlen]; rfl
         have hrg := bin_range (lo := lo) (v := xs.getD i 0) (bins := nb) (show 0 < wd by omega)
         obtain ⟨k, hk⟩ : ∃ k : Nat, bin lo wd nb (xs.getD i 0) = k := ⟨(bin lo wd nb (xs.getD i 0)).toNat, by omega⟩
         have hkl : k < nb + 2 := by omega
         have hkl2 : (k : Int) < (nb : Int) + 2 := by omega
         have HS := Lib.hid (cnts_snoc lo wd nb (xs.take i) (xs.getD i 0) hk)
         have c1 := intRow_cell hr.out.1 (i := k) (by rw [cnts_len]; exact hkl)
         have f1 := intRow_frozen hr.out.1 k
         have hcr : -4096 ≤ (cnts lo wd nb (xs.take i)).getD k 0 ∧ (cnts lo wd nb (xs.take i)).getD k 0 ≤ 4611686018427387904 := by
           rw [cnts_get _ _ _ _ hkl]
           unfold cnt
           have := List.length_filter_le (fun v => decide (bin lo wd nb v = (k : Int))) (xs.take i)
           rw [List.length_take] at this
           omega
         have HN := Lib.hid (fun v (h : v = (cnts lo wd nb (xs.take i)).getD k 0 + 1) => show IntRow (wr.setCell ⟨B, k, none⟩ (.int .i64 v)) B (cnts lo wd nb (xs.take (i + 1))) by
           rw [hsn, ← HS.out, h]; exact intRow_set hr.out.1 k _)
         generalize (cnts lo wd nb (xs.take i)).getD k 0 = cv at *
         unfold bin at hk
         clear HS hsn hrg
         generalize xs.getD i 0 = v at *
         by_cases hlv : lo ≤ v
         · rw [if_pos hlv] at hk
           have hq0 : 0 ≤ (v - lo) / wd := Int.ediv_nonneg (by omega) (by omega)
           have hq1 : (v - lo) / wd ≤ v - lo := Int.ediv_le_self _ (by omega)
           go_wp2
           go_roundg m
           case measure => omega
           case rel => exact ⟨i + 1, by go_num, by omega, ⟨HN.out _ rfl, hr.out.2.1.setCell (p := ⟨B, _, none⟩) hr.out.2.2 _, hr.out.2.2⟩⟩
         · rw [if_neg hlv] at hk
           obtain rfl : k = 0 := by omega
           clear hk hkl2 hkl
           have hkl3 : (0 : Int) < (nb : Int) + 2 := by omega
           go_wp2
           go_roundg m
           case measure => omega
           case rel => exact ⟨i + 1, by go_num, by omega, ⟨HN.out _ rfl, hr.out.2.1.setCell (p := ⟨B, _, none⟩) hr.out.2.2 _, hr.out.2.2⟩⟩
  · have hb : (serE xs != 0) = true := by simpa using hs0
    have hE : hisE xs lo wd bins = serE xs := by unfold hisE; rw [if_pos hs0]
    have hfin := Lib.hid (show HisPost xs lo wd bins w (.returned (.tuple #[.slice none 0 0, .int .i64 0, .int .i64 0, .int .i64 (serE xs)])) w from
      ⟨fun _ => by rw [hE], fun h => absurd (hE.symm.trans h) hs0, Below.refl _ _⟩)
    clear hE hs0
    generalize serE xs = ev at *
    go_enter Tryz.func24, Tryz.ntmps24
    go_wp2_with (go_at_call 18; refine (HC.out).mono ?_; rintro e w1 ⟨rfl, rfl⟩)
    go_returns
    exact hfin.out
end Go.Proofs.YtdkfebfedfemaaaGreatDoor
