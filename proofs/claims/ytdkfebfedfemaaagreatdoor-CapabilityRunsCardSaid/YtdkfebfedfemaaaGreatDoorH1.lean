/- Few, SameInts; the reference's Histogram; CapabilityCounts walked. -/
import Derived.Test.YtdkfebfedfemaaaGreatDoorL4
set_option linter.unusedVariables false
set_option linter.unusedSimpArgs false
namespace Go.Proofs.YtdkfebfedfemaaaGreatDoor
open Go.RowKit Go.Mlab

def fewB (n : Nat) : Bool := decide (n ≤ 20) || (decide (4096 < n) && decide (n < 8192))
theorem few_calls (A : Option Addr) (c n : Nat) (w : World) (hn : n ≤ 4611686018427387904) :
    Calls Tryz.prog 10 #[.slice A n c] w fun e w' => e = .returned (.bool (fewB n)) ∧ w' = w := by
  unfold fewB
  by_cases h1 : n ≤ 20
  · have h1' : (n : Int) ≤ 20 := by omega
    rw [decide_eq_true h1, Bool.true_or]
    clear h1
    go_enter Tryz.func10, Tryz.ntmps10
    go_wp2
    go_ret
    exact ⟨rfl, rfl⟩
  · have h1' : (20 : Int) < n := by omega
    have b1 : decide ((n : Int) ≤ 20) = false := decide_eq_false (by omega)
    rw [decide_eq_false h1, Bool.false_or]
    by_cases h2 : 4096 < n
    · have h2' : (4096 : Int) < n := by omega
      rw [decide_eq_true h2, Bool.true_and]
      by_cases h3 : n < 8192
      · have h3' : (n : Int) < 8192 := by omega
        rw [decide_eq_true h3]
        clear h1 h2 h3
        go_enter Tryz.func10, Tryz.ntmps10
        go_wp2
        go_ret
        exact ⟨rfl, rfl⟩
      · have h3' : (8192 : Int) ≤ n := by omega
        have b3 : decide ((n : Int) < 8192) = false := decide_eq_false (by omega)
        rw [decide_eq_false h3]
        clear h1 h2 h3
        go_enter Tryz.func10, Tryz.ntmps10
        go_wp2
        go_ret
        exact ⟨rfl, rfl⟩
    · have h2' : (n : Int) ≤ 4096 := by omega
      have b2 : decide ((4096 : Int) < n) = false := decide_eq_false (by omega)
      rw [decide_eq_false h2, Bool.false_and]
      clear h1 h2
      go_enter Tryz.func10, Tryz.ntmps10
      go_wp2
      go_ret
      exact ⟨rfl, rfl⟩
set_option maxHeartbeats 1000000 in
theorem same_calls (A B : Option Addr) (c d n : Nat) (ys : List Int) (w : World) (hn : ys.length = n) (hx : IntsAt w A c ys) (hy : IntsAt w B d ys) :
    Calls Tryz.prog 26 #[.slice A n c, .slice B n d] w fun e w' => e = .returned (.bool true) ∧ Below w.heap.size w w' := by
  have hbig := hx.big
  have hc1 := hx.cap
  have hc2 := hy.cap
  rw [hn] at hbig hc1 hc2
  have HX := Lib.hid hx
  have HY := Lib.hid hy
  have Hn := Lib.hid hn
  have bb : decide (n ≠ n) = false := decide_eq_false (fun h => h rfl)
  clear hx hy hn
  go_enter Tryz.func26, Tryz.ntmps26
  go_wp2
  go_loopg [5] n (fun k v5 wr => ∃ i : Nat, v5 = .int .i64 i ∧ k + i = n ∧ ∃ q, wr = w.drewN q)
  case atStart => exact ⟨0, rfl, by omega, 0, rfl⟩
  case round =>
    obtain ⟨i, rfl, hi, q, rfl⟩ := hrel
    cases gk with
    | zero =>
      obtain rfl : i = n := by omega
      clear hi
      go_wp2
      go_ret
      exact ⟨rfl, pw_below_drewN (Below.refl _ _) _⟩
    | succ m =>
      have hin : i < n := by omega
      have hin2 : (i : Int) < n := by omega
      obtain ⟨b, o, rfl, g1⟩ := ints_get HX.out (i := i) (by rw [Hn.out]; exact hin)
      obtain ⟨b', o', rfl, g2⟩ := ints_get HY.out (i := i) (by rw [Hn.out]; exact hin)
      generalize ys.getD i 0 = v at *
      have r1 : (w.drewN q).cell? ⟨b, o + i, none⟩ = some (.int .i64 v) := g1
      have r2 : (w.drewN q).cell? ⟨b', o' + i, none⟩ = some (.int .i64 v) := g2
      have i1 : (0 : Int) ≤ i := by omega
      go_wp2
      go_quiet (fail)
      go_wp2
      go_roundg m
      case measure => omega
      case rel => exact ⟨i + 1, by go_num, by omega, _, rfl⟩
def hisL (xs : List Int) (lo wd bins : Int) : List Int := if hisE xs lo wd bins = 0 then binsL lo wd bins.toNat xs else []
def hisM (xs : List Int) (lo wd bins : Int) : Int := if hisE xs lo wd bins = 0 then cnt lo wd bins xs 0 else 0
def hisN (xs : List Int) (lo wd bins : Int) : Int := if hisE xs lo wd bins = 0 then cnt lo wd bins xs (bins.toNat + 1) else 0
/-- What both Histograms answer. -/
def HisQ (xs : List Int) (lo wd bins : Int) (w : World) (e : Ending) (w' : World) : Prop := ∃ A c, e = .returned (.tuple #[.slice A (hisL xs lo wd bins).length c, .int .i64 (hisM xs lo wd bins), .int .i64 (hisN xs lo wd bins), .int .i64 (hisE xs lo wd bins)]) ∧ IntsAt w' A c (hisL xs lo wd bins) ∧ Below w.heap.size w w'
theorem hisE_ok {xs : List Int} {lo wd bins : Int} (h : hisE xs lo wd bins = 0) : serE xs = 0 ∧ inB lo = true ∧ 1 ≤ wd ∧ wd ≤ 1048576 ∧ 1 ≤ bins ∧ bins ≤ 256 := by
  unfold hisE at h
  by_cases h1 : serE xs = 0
  · rw [h1, if_neg (by decide)] at h
    split at h
    · cases h
    · rename_i h2
      refine ⟨h1, ?_, ?_⟩
      · cases hi : inB lo with
        | true => rfl
        | false => exact absurd (.inl hi) h2
      · omega
  · rw [if_pos h1] at h; exact absurd h h1
theorem his_q (A : Option Addr) (c : Nat) (xs : List Int) (lo wd bins : Int) (w : World) (hx : IntsAt w A c xs) :
    Calls Tryz.prog 24 #[.slice A xs.length c, .int .i64 lo, .int .i64 wd, .int .i64 bins] w (HisQ xs lo wd bins w) := by
  refine (his_calls A c xs lo wd bins w hx).mono ?_
  rintro e w' ⟨h1, h2, hB⟩
  unfold HisQ hisL hisM hisN
  by_cases hE : hisE xs lo wd bins = 0
  · obtain ⟨b, he, hb, hr⟩ := h2 hE
    have hk := hisE_ok hE
    obtain ⟨nb, rfl⟩ : ∃ nb : Nat, bins = nb := ⟨bins.toNat, by omega⟩
    rw [if_pos hE, if_pos hE, if_pos hE, hE]
    rw [Int.toNat_natCast] at *
    refine ⟨some ⟨b, 1, none⟩, nb + 1, by rw [binsL_len]; exact he, ⟨by rw [binsL_len]; omega, by rw [binsL_len]; omega, .inr ⟨b, 1, rfl, intRow_lt hr, fun j hj => ?_⟩⟩, hB⟩
    rw [binsL_len] at hj
    have := intRow_cell hr (i := 1 + j) (by rw [cnts_len]; omega)
    rw [cnts_get _ _ _ _ (by omega)] at this
    rw [this, binsL_get _ _ _ _ hj, Nat.add_comm 1 j]
  · rw [if_neg hE, if_neg hE, if_neg hE]
    exact ⟨none, 0, h1 hE, ⟨Nat.le_refl _, by simp, .inl rfl⟩, hB⟩
theorem binsL_nil (lo wd : Int) (n : Nat) : binsL lo wd n [] = List.replicate n 0 := by
  apply List.ext_getElem
  · simp [binsL]
  · intro j h1 h2
    rw [List.getElem_replicate]
    have hj : j < n := by simpa using h2
    have := binsL_get lo wd n [] hj
    rw [List.getD_eq_getElem?_getD, List.getElem?_eq_getElem h1] at this
    exact this
theorem binsL_snoc_in (lo wd : Int) (n : Nat) (xs : List Int) (v : Int) {k : Nat} (hk : bin lo wd n v = (k + 1 : Nat)) (hkn : k < n) : (binsL lo wd n xs).set k ((binsL lo wd n xs).getD k 0 + 1) = binsL lo wd n (xs ++ [v]) := by
  apply List.ext_getElem
  · simp [binsL]
  · intro j h1 h2
    rw [binsL_len] at h2
    have e1 : (binsL lo wd n (xs ++ [v]))[j]'(by rw [binsL_len]; exact h2) = cnt lo wd n (xs ++ [v]) (j + 1) := by rw [← binsL_get lo wd n (xs ++ [v]) h2, List.getD_eq_getElem?_getD, List.getElem?_eq_getElem (by rw [binsL_len]; exact h2)]; rfl
    have e2 : (binsL lo wd n xs)[j]'(by rw [binsL_len]; exact h2) = cnt lo wd n xs (j + 1) := by rw [← binsL_get lo wd n xs h2, List.getD_eq_getElem?_getD, List.getElem?_eq_getElem (by rw [binsL_len]; exact h2)]; rfl
    rw [List.getElem_set, e1, cnt_snoc, hk]
    by_cases h : k = j
    · subst h
      rw [if_pos rfl, if_pos rfl, binsL_get _ _ _ _ h2]
    · rw [if_neg h, if_neg (by omega), e2]; omega
theorem binsL_snoc_out (lo wd : Int) (n : Nat) (xs : List Int) (v : Int) {k : Nat} (hk : bin lo wd n v = (k : Nat)) (hkn : k = 0 ∨ k = n + 1) : binsL lo wd n xs = binsL lo wd n (xs ++ [v]) := by
  unfold binsL
  refine List.map_congr_left fun j hj => ?_
  have := List.mem_range.1 hj
  rw [cnt_snoc, hk, if_neg (by omega), Int.add_zero]
theorem cnt_snoc_ne (lo wd bins : Int) (xs : List Int) (v : Int) (k : Nat) (h : bin lo wd bins v ≠ k) : cnt lo wd bins (xs ++ [v]) k = cnt lo wd bins xs k := by rw [cnt_snoc, if_neg h, Int.add_zero]
theorem cnt_snoc_eq (lo wd bins : Int) (xs : List Int) (v : Int) (k : Nat) (h : bin lo wd bins v = k) : cnt lo wd bins (xs ++ [v]) k = cnt lo wd bins xs k + 1 := by rw [cnt_snoc, if_pos h]
end Go.Proofs.YtdkfebfedfemaaaGreatDoor
