/- The plain law of CapabilityTotals: all values are counted once; all are in runs, or in the middle. -/
import Derived.Test.YtdkfebfedfemaaaGreatDoorL2
set_option linter.unusedVariables false
set_option linter.unusedSimpArgs false
namespace Go.Proofs.YtdkfebfedfemaaaGreatDoor
open Go.RowKit Go.Mlab

theorem sortZ_perm (xs : List Int) : (sortZ xs).Perm xs := by unfold sortZ; exact List.mergeSort_perm _ _
theorem cnt_perm {lo wd bins : Int} {xs ys : List Int} (h : xs.Perm ys) (k : Nat) : cnt lo wd bins xs k = cnt lo wd bins ys k := by
  unfold cnt; rw [(h.filter _).length_eq]
theorem cnts_perm {lo wd : Int} {bins : Nat} {xs ys : List Int} (h : xs.Perm ys) : cnts lo wd bins xs = cnts lo wd bins ys := by
  unfold cnts; exact List.map_congr_left fun k _ => cnt_perm h k
theorem any_perm {p : Int → Bool} {xs ys : List Int} (h : xs.Perm ys) : xs.any p = ys.any p := by
  rw [Bool.eq_iff_iff, List.any_eq_true, List.any_eq_true]
  exact ⟨fun ⟨x, hx, hp⟩ => ⟨x, h.mem_iff.1 hx, hp⟩, fun ⟨x, hx, hp⟩ => ⟨x, h.mem_iff.2 hx, hp⟩⟩
theorem serE_perm {xs ys : List Int} (h : xs.Perm ys) : serE xs = serE ys := by
  unfold serE
  rw [any_perm h, h.length_eq]
  by_cases hx : xs = []
  · subst hx
    rw [List.nil_perm.1 h]
  · have hy : ys ≠ [] := fun e => hx (by rw [e] at h; exact List.perm_nil.1 h)
    rw [if_neg hx, if_neg hy]
theorem isum_set : ∀ (l : List Int) (k : Nat) (v : Int), k < l.length → isum (l.set k v) = isum l - l.getD k 0 + v
  | [], k, v, h => by simp at h
  | a :: l, 0, v, _ => by simp [isum]; omega
  | a :: l, k + 1, v, h => by
    have := isum_set l k v (by simpa using h)
    simp only [List.set_cons_succ, isum, this, List.getD_cons_succ]; omega
theorem isum_zero : ∀ (n : Nat), isum (List.replicate n 0) = 0
  | 0 => rfl
  | n + 1 => by simp [List.replicate_succ, isum, isum_zero n]
theorem cnts_total {lo wd : Int} {bins : Nat} (hw : 0 < wd) (xs : List Int) : isum (cnts lo wd bins xs) = xs.length := by
  have H : ∀ (ys zs : List Int), isum (cnts lo wd bins ys) = ys.length → isum (cnts lo wd bins (ys ++ zs)) = (ys ++ zs).length := by
    intro ys zs
    induction zs generalizing ys with
    | nil => intro h; simpa using h
    | cons v zs ih =>
      intro h
      have hr := bin_range (lo := lo) (v := v) (bins := bins) hw
      obtain ⟨k, hk⟩ : ∃ k : Nat, bin lo wd bins v = k := ⟨(bin lo wd bins v).toNat, by omega⟩
      have hs := cnts_snoc lo wd bins ys v hk
      have h2 := isum_set (cnts lo wd bins ys) k ((cnts lo wd bins ys).getD k 0 + 1) (by rw [cnts_len]; omega)
      rw [hs] at h2
      have := ih (ys ++ [v]) (by rw [h2, h, List.length_append, List.length_singleton]; omega)
      simpa [List.append_assoc] using this
  have := H [] xs (by rw [cnts_nil, isum_zero]; rfl)
  simpa using this
/-- The counts of the bins proper. -/
def binsL (lo wd : Int) (n : Nat) (xs : List Int) : List Int := (List.range n).map fun k => cnt lo wd n xs (k + 1)
theorem binsL_len (lo wd : Int) (n : Nat) (xs : List Int) : (binsL lo wd n xs).length = n := by unfold binsL; simp
theorem binsL_get (lo wd : Int) (n : Nat) (xs : List Int) {k : Nat} (h : k < n) : (binsL lo wd n xs).getD k 0 = cnt lo wd n xs (k + 1) := by
  unfold binsL; rw [List.getD_eq_getElem?_getD, List.getElem?_map, List.getElem?_range h]; rfl
theorem binsL_total {lo wd : Int} {n : Nat} (hw : 0 < wd) (xs : List Int) : cnt lo wd n xs 0 + isum (binsL lo wd n xs) + cnt lo wd n xs (n + 1) = xs.length := by
  rw [← cnts_total (bins := n) hw xs]
  unfold cnts binsL
  rw [List.range_succ, List.range_succ_eq_map, List.map_append, List.map_cons, List.map_map, isum_append]
  simp only [isum, List.map_cons, List.map_nil]
  rw [show (cnt lo wd n xs ∘ Nat.succ) = fun k => cnt lo wd n xs (k + 1) from rfl]
  omega
theorem cnt_bd (lo wd bins : Int) (xs : List Int) (k : Nat) : 0 ≤ cnt lo wd bins xs k ∧ cnt lo wd bins xs k ≤ xs.length := by
  unfold cnt
  have := List.length_filter_le (fun v => decide (bin lo wd bins v = (k : Int))) xs
  omega
theorem isum_take_le {l : List Int} (h : ∀ x ∈ l, 0 ≤ x) : ∀ (i : Nat), 0 ≤ isum (l.take i) ∧ isum (l.take i) ≤ isum l := by
  have H : ∀ (m : List Int), (∀ x ∈ m, 0 ≤ x) → 0 ≤ isum m := by
    intro m
    induction m with
    | nil => intro _; exact Int.le_refl _
    | cons a m ih => intro hm; have := ih (fun x hx => hm x (by simp [hx])); have := hm a (by simp); simp only [isum]; omega
  intro i
  have e := isum_append (l.take i) (l.drop i)
  rw [List.take_append_drop] at e
  have h1 := H (l.take i) (fun x hx => h x (List.mem_of_mem_take hx))
  have h2 := H (l.drop i) (fun x hx => h x (List.mem_of_mem_drop hx))
  omega
theorem binsL_nonneg (lo wd : Int) (n : Nat) (xs : List Int) : ∀ x ∈ binsL lo wd n xs, 0 ≤ x := by
  intro x hx
  unfold binsL at hx
  obtain ⟨k, _, rfl⟩ := List.mem_map.1 hx
  exact (cnt_bd _ _ _ _ _).1
/-! ### Runs -/
def mabs (k : Int) : Int := max k (-k)
def asum (l : List Int) : Int := isum (l.map mabs)
theorem asum_append (a b : List Int) : asum (a ++ b) = asum a + asum b := by unfold asum; rw [List.map_append, isum_append]
theorem asum_one (a : Int) : asum [a] = mabs a := by unfold asum; simp [isum]
def midL (lo hi : Int) (xs : List Int) : Int := ((xs.filter fun v => decide (2 * v = lo + hi)).length : Int)
theorem midL_snoc (lo hi : Int) (xs : List Int) (v : Int) : midL lo hi (xs ++ [v]) = midL lo hi xs + if 2 * v = lo + hi then 1 else 0 := by
  unfold midL
  rw [List.filter_append, List.length_append]
  by_cases h : 2 * v = lo + hi
  · rw [if_pos h, List.filter_cons_of_pos (by simpa using h)]; simp
  · rw [if_neg h, List.filter_cons_of_neg (by simpa using h)]; simp
theorem midL_bd (lo hi : Int) (xs : List Int) : 0 ≤ midL lo hi xs ∧ midL lo hi xs ≤ xs.length := by
  unfold midL
  have := List.length_filter_le (fun v => decide (2 * v = lo + hi)) xs
  omega
theorem sgn_spec (lo hi v : Int) : (2 * v < lo + hi → sgn lo hi v = -1) ∧ (2 * v = lo + hi → sgn lo hi v = 0) ∧ (lo + hi < 2 * v → sgn lo hi v = 1) := by
  unfold sgn Lib.compareInt
  refine ⟨fun h => by rw [if_pos h], fun h => by rw [if_neg (by omega), if_neg (by omega)], fun h => by rw [if_neg (by omega), if_pos (by omega)]⟩
/-- The run is as the last value's side says. -/
def RunOk (lo hi : Int) (ys : List Int) (st : Int × List Int) : Prop :=
  (∀ k ∈ st.2, k ≠ 0) ∧ asum st.2 + mabs st.1 + midL lo hi ys = ys.length ∧ (∀ v, ys.getLast? = some v → (0 < sgn lo hi v → 0 < st.1) ∧ (sgn lo hi v < 0 → st.1 < 0) ∧ (sgn lo hi v = 0 → st.1 = 0))
theorem runStep_ok (lo hi v : Int) {ys : List Int} {st : Int × List Int} (h : RunOk lo hi ys st) : RunOk lo hi (ys ++ [v]) (runStep lo hi st v) := by
  obtain ⟨r, out⟩ := st
  obtain ⟨h1, h2, _⟩ := h
  dsimp only at h1 h2
  have hs := sgn_cases lo hi v
  have hsp := sgn_spec lo hi v
  have hm := midL_snoc lo hi ys v
  have hmid : (if 2 * v = lo + hi then (1 : Int) else 0) = 1 - mabs (sgn lo hi v) := by
    by_cases e : 2 * v = lo + hi
    · rw [if_pos e, hsp.2.1 e]; rfl
    · rw [if_neg e]
      rcases Int.lt_or_gt_of_ne e with e | e
      · rw [hsp.1 e]; rfl
      · rw [hsp.2.2 e]; rfl
  rw [hmid] at hm
  unfold runStep RunOk
  dsimp only
  generalize hse : sgn lo hi v = s at *
  rw [List.length_append, List.length_singleton]
  by_cases hp : 0 < s * r
  · rw [if_pos hp]
    dsimp only
    refine ⟨h1, ?_, ?_⟩
    · have : mabs (r + s) + (1 - mabs s) = mabs r + 1 := by
        unfold mabs; rcases hs with rfl | rfl | rfl <;> omega
      omega
    · intro u hu
      rw [List.getLast?_append, List.getLast?_singleton] at hu
      simp only [Option.some_or, Option.some.injEq] at hu
      subst hu
      rw [hse]
      rcases hs with rfl | rfl | rfl <;> omega
  · rw [if_neg hp]
    dsimp only
    refine ⟨?_, ?_, ?_⟩
    · by_cases hr : r = 0
      · rw [if_pos hr]; exact h1
      · rw [if_neg hr]
        intro k hk
        rcases List.mem_append.1 hk with hk | hk
        · exact h1 k hk
        · rw [List.mem_singleton.1 hk]; exact hr
    · by_cases hr : r = 0
      · rw [if_pos hr]
        subst hr
        have : mabs 0 = 0 := rfl
        omega
      · rw [if_neg hr, asum_append, asum_one]
        omega
    · intro u hu
      rw [List.getLast?_append, List.getLast?_singleton] at hu
      simp only [Option.some_or, Option.some.injEq] at hu
      subst hu
      rw [hse]
      omega
theorem foldl_ok (lo hi : Int) : ∀ (xs ys : List Int) (st : Int × List Int), RunOk lo hi ys st → RunOk lo hi (ys ++ xs) (xs.foldl (runStep lo hi) st)
  | [], ys, st, h => by simpa using h
  | v :: xs, ys, st, h => by
    have := foldl_ok lo hi xs (ys ++ [v]) _ (runStep_ok lo hi v h)
    simpa [List.append_assoc] using this
theorem runFold_ok (lo hi : Int) (xs : List Int) : RunOk lo hi xs (runFold lo hi xs) := by
  have := foldl_ok lo hi xs [] (0, []) ⟨by simp, by rfl, by simp⟩
  rw [List.nil_append] at this
  exact this
/-- The last of a list, or 0. -/
def lastZ (l : List Int) : Int := l.getLast?.getD 0
theorem lastZ_snoc (l : List Int) (v : Int) : lastZ (l ++ [v]) = v := by unfold lastZ; simp
theorem runsL_ok (lo hi : Int) (xs : List Int) : (∀ k ∈ runsL lo hi xs, k ≠ 0) ∧ asum (runsL lo hi xs) + midL lo hi xs = xs.length ∧
    (∀ v, xs.getLast? = some v → (lo + hi < 2 * v → 0 < lastZ (runsL lo hi xs)) ∧ (2 * v < lo + hi → lastZ (runsL lo hi xs) < 0)) := by
  obtain ⟨h1, h2, h3⟩ := runFold_ok lo hi xs
  unfold runsL
  generalize runFold lo hi xs = st at *
  obtain ⟨r, out⟩ := st
  dsimp only at *
  by_cases hr : r = 0
  · rw [if_pos hr]
    subst hr
    refine ⟨h1, by have : mabs 0 = 0 := rfl; omega, fun v hv => ?_⟩
    have h4 := h3 v hv
    have hsp := sgn_spec lo hi v
    refine ⟨fun h => ?_, fun h => ?_⟩
    · have := h4.1 (by rw [hsp.2.2 h]; decide); omega
    · have := h4.2.1 (by rw [hsp.1 h]; decide); omega
  · rw [if_neg hr]
    refine ⟨?_, by rw [asum_append, asum_one]; omega, fun v hv => ?_⟩
    · intro k hk
      rcases List.mem_append.1 hk with hk | hk
      · exact h1 k hk
      · rw [List.mem_singleton.1 hk]; exact hr
    · rw [lastZ_snoc]
      have h4 := h3 v hv
      have hsp := sgn_spec lo hi v
      exact ⟨fun h => h4.1 (by rw [hsp.2.2 h]; decide), fun h => h4.2.1 (by rw [hsp.1 h]; decide)⟩
theorem mabs_nonneg (k : Int) : 0 ≤ mabs k := by unfold mabs; omega
theorem asum_take (l : List Int) (i : Nat) : 0 ≤ asum (l.take i) ∧ asum (l.take i) ≤ asum l := by
  unfold asum
  rw [List.map_take]
  refine isum_take_le (fun x hx => ?_) i
  obtain ⟨k, _, rfl⟩ := List.mem_map.1 hx
  exact mabs_nonneg k
theorem asum_take_succ (l : List Int) (i : Nat) (h : i < l.length) : asum (l.take (i + 1)) = asum (l.take i) + mabs (l.getD i 0) := by
  rw [List.getD_eq_getElem?_getD, take_snoc' h, asum_append, asum_one]
theorem lastZ_take_succ (l : List Int) (i : Nat) (h : i < l.length) : lastZ (l.take (i + 1)) = l.getD i 0 := by
  rw [List.getD_eq_getElem?_getD, take_snoc' h, lastZ_snoc]
theorem midL_take_succ (lo hi : Int) (l : List Int) (i : Nat) (h : i < l.length) : midL lo hi (l.take (i + 1)) = midL lo hi (l.take i) + if 2 * l.getD i 0 = lo + hi then 1 else 0 := by
  rw [List.getD_eq_getElem?_getD, take_snoc' h, midL_snoc]
theorem last_getD (l : List Int) (h : l ≠ []) : l.getLast? = some (l.getD (l.length - 1) 0) := by
  rw [List.getLast?_eq_getElem?, List.getD_eq_getElem?_getD]
  have h0 : l.length - 1 < l.length := by
    have : l.length ≠ 0 := fun e => h (List.length_eq_zero_iff.1 e)
    omega
  rw [List.getElem?_eq_getElem h0]; rfl
end Go.Proofs.YtdkfebfedfemaaaGreatDoor
