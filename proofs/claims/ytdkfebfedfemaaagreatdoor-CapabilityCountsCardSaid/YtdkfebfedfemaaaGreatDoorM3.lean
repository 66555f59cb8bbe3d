import Derived.Test.YtdkfebfedfemaaaGreatDoorM2
namespace Go.Mlab
open Go.Lib

/-! The words of a magnitude. -/
def mag : List Int → Int
  | [] => 0
  | a :: r => a + 1000000000 * mag r
theorem mag_nil : mag [] = 0 := rfl
theorem mag_cons (a : Int) (r : List Int) : mag (a :: r) = a + 1000000000 * mag r := rfl
def wordOk (a : Int) : Prop := 0 ≤ a ∧ a < 1000000000
def wordsOk (ws : List Int) : Prop := ∀ a ∈ ws, wordOk a
theorem wordsOk_cons {a : Int} {r : List Int} : wordsOk (a :: r) ↔ wordOk a ∧ wordsOk r := by
  unfold wordsOk; simp
def BB (k : Nat) : Int := 1000000000 ^ k
theorem BB_zero : BB 0 = 1 := rfl
theorem BB_succ (k : Nat) : BB (k + 1) = 1000000000 * BB k := by unfold BB; rw [Int.pow_succ, Int.mul_comm]
theorem BB_pos (k : Nat) : 0 < BB k := by
  induction k with
  | zero => decide
  | succ k ih => rw [BB_succ]; omega
theorem BB_add (j k : Nat) : BB (j + k) = BB j * BB k := by unfold BB; exact Int.pow_add _ _ _
theorem BB_mono {j k : Nat} (h : j ≤ k) : BB j ≤ BB k := by
  induction k with
  | zero => obtain rfl : j = 0 := by omega
            exact Int.le_refl _
  | succ k ih =>
    rcases Nat.lt_or_ge j (k + 1) with h1 | h1
    · have := ih (by omega); have := BB_pos k; rw [BB_succ]; omega
    · obtain rfl : j = k + 1 := by omega
      exact Int.le_refl _
theorem mag_nonneg {ws : List Int} (h : wordsOk ws) : 0 ≤ mag ws := by
  induction ws with
  | nil => exact Int.le_refl _
  | cons a r ih => rw [wordsOk_cons] at h; have := ih h.2; have := h.1; unfold wordOk at this; rw [mag_cons]; omega
theorem mag_lt {ws : List Int} (h : wordsOk ws) : mag ws < BB ws.length := by
  induction ws with
  | nil => decide
  | cons a r ih => rw [wordsOk_cons] at h; have := ih h.2; have := h.1; unfold wordOk at this; rw [mag_cons, List.length_cons, BB_succ]; omega
theorem mag_append (a b : List Int) : mag (a ++ b) = mag a + BB a.length * mag b := by
  induction a with
  | nil => rw [List.nil_append, mag_nil, List.length_nil, BB_zero]; omega
  | cons x a ih => rw [List.cons_append, mag_cons, mag_cons, List.length_cons, BB_succ, ih]; grind
theorem mag_zeros (k : Nat) : mag (List.replicate k 0) = 0 := by
  induction k with
  | zero => rfl
  | succ k ih => rw [List.replicate_succ, mag_cons, ih]; rfl
theorem mag_set (ws : List Int) (k : Nat) (v : Int) (h : k < ws.length) : mag (ws.set k v) = mag ws + (v - ws.getD k 0) * BB k := by
  induction ws generalizing k with
  | nil => simp at h
  | cons a r ih =>
    cases k with
    | zero => simp only [List.set_cons_zero, mag_cons, List.getD_cons_zero, BB_zero]; omega
    | succ k =>
      simp only [List.set_cons_succ, mag_cons, List.getD_cons_succ, BB_succ]
      rw [ih k (by simpa using h)]; grind
theorem wordsOk_set {ws : List Int} (h : wordsOk ws) (k : Nat) {v : Int} (hv : wordOk v) : wordsOk (ws.set k v) := by
  intro a ha
  rcases List.mem_or_eq_of_mem_set ha with h1 | h1
  · exact h a h1
  · rw [h1]; exact hv
theorem wordsOk_get {ws : List Int} (h : wordsOk ws) (k : Nat) : wordOk (ws.getD k 0) := by
  rcases Nat.lt_or_ge k ws.length with h1 | h1
  · rw [List.getD_eq_getElem?_getD, List.getElem?_eq_getElem h1]; exact h _ (List.getElem_mem h1)
  · rw [List.getD_eq_getElem?_getD, List.getElem?_eq_none h1]; unfold wordOk; simp
theorem mag_take_succ (ws : List Int) (k : Nat) (h : k < ws.length) : mag (ws.take (k + 1)) = mag (ws.take k) + ws.getD k 0 * BB k := by
  rw [List.take_succ_eq_append_getElem h, mag_append, List.length_take, Nat.min_eq_left (by omega), mag_cons, mag_nil, List.getD_eq_getElem?_getD, List.getElem?_eq_getElem h]
  simp only [Option.getD_some]; grind

/-! An integer: its sign, how many words it has, and the words, 232 in all. -/
structure Wide where
  less : Bool
  n : Nat
  ws : List Int
structure WideOk (x : Wide) : Prop where
  len : x.ws.length = 232
  ok : wordsOk x.ws
  le : x.n ≤ 232
  zero : ∀ i, x.n ≤ i → x.ws.getD i 0 = 0
  trim : x.n ≠ 0 → x.ws.getD (x.n - 1) 0 ≠ 0
def Wide.m (x : Wide) : Int := mag x.ws
def Wide.z (x : Wide) : Int := if x.less then -x.m else x.m
theorem mag_drop_zero : ∀ (ws : List Int), (∀ i, ws.getD i 0 = 0) → mag ws = 0
  | [], _ => rfl
  | a :: r, h => by
    have h0 := h 0
    simp at h0
    rw [mag_cons, mag_drop_zero r (fun i => by have := h (i + 1); simpa using this), h0]; rfl
theorem mag_take_of_zero (ws : List Int) (n : Nat) (h : ∀ i, n ≤ i → ws.getD i 0 = 0) : mag (ws.take n) = mag ws := by
  have h1 := mag_append (ws.take n) (ws.drop n)
  rw [List.take_append_drop] at h1
  have h2 : mag (ws.drop n) = 0 := mag_drop_zero _ (fun i => by
    have := h (n + i) (by omega)
    rw [List.getD_eq_getElem?_getD, List.getElem?_drop]; rw [List.getD_eq_getElem?_getD] at this; exact this)
  rw [h2] at h1; omega
theorem WideOk.m_take {x : Wide} (h : WideOk x) : mag (x.ws.take x.n) = x.m := mag_take_of_zero _ _ h.zero
theorem WideOk.nonneg {x : Wide} (h : WideOk x) : 0 ≤ x.m := mag_nonneg h.ok
theorem WideOk.lt {x : Wide} (h : WideOk x) : x.m < BB x.n := by
  rw [← h.m_take]
  have := mag_lt (ws := x.ws.take x.n) (fun a ha => h.ok a (List.mem_of_mem_take ha))
  rw [List.length_take, h.len, Nat.min_eq_left h.le] at this
  exact this
/-- The value of a magnitude that is not 0 is at least its highest place. -/
theorem WideOk.ge {x : Wide} (h : WideOk x) (h0 : x.n ≠ 0) : BB (x.n - 1) ≤ x.m := by
  have e : x.n - 1 + 1 = x.n := by omega
  have h1 := mag_take_succ x.ws (x.n - 1) (by rw [h.len]; have := h.le; omega)
  rw [e, h.m_take] at h1
  have h2 := mag_nonneg (ws := x.ws.take (x.n - 1)) (fun a ha => h.ok a (List.mem_of_mem_take ha))
  have h3 := wordsOk_get h.ok (x.n - 1)
  have h4 := h.trim h0
  unfold wordOk at h3
  have h5 : 1 * BB (x.n - 1) ≤ x.ws.getD (x.n - 1) 0 * BB (x.n - 1) := Int.mul_le_mul_of_nonneg_right (by omega) (Int.le_of_lt (BB_pos _))
  omega
theorem WideOk.n_zero {x : Wide} (h : WideOk x) : x.n = 0 ↔ x.m = 0 := by
  constructor
  · intro h0; have h1 := h.lt; have h2 := h.nonneg; rw [h0, BB_zero] at h1; omega
  · intro h0
    rcases Nat.eq_zero_or_pos x.n with h1 | h1
    · exact h1
    · have := h.ge (by omega); have := BB_pos (x.n - 1); omega
theorem BB_lt_of {j k : Nat} (h : BB j < BB k) : j < k := by
  rcases Nat.lt_or_ge j k with h1 | h1
  · exact h1
  · have := BB_mono h1; omega
theorem WideOk.n_le {x : Wide} (h : WideOk x) {k : Nat} (hk : x.m < BB k) : x.n ≤ k := by
  rcases Nat.eq_zero_or_pos x.n with h1 | h1
  · omega
  · have := h.ge (by omega)
    have := BB_lt_of (Int.lt_of_le_of_lt this hk)
    omega
/-- Equal magnitudes have equal words. -/
theorem mag_inj : ∀ {a b : List Int}, wordsOk a → wordsOk b → a.length = b.length → mag a = mag b → a = b
  | [], [], _, _, _, _ => rfl
  | [], _ :: _, _, _, h, _ => by simp at h
  | _ :: _, [], _, _, h, _ => by simp at h
  | x :: a, y :: b, ha, hb, hl, hm => by
    rw [wordsOk_cons] at ha hb
    rw [mag_cons, mag_cons] at hm
    have h1 := ha.1; have h2 := hb.1; unfold wordOk at h1 h2
    have h3 : x = y := by omega
    rw [h3, mag_inj ha.2 hb.2 (by simpa using hl) (by omega)]
theorem WideOk.n_eq {x y : Wide} (hx : WideOk x) (hy : WideOk y) (h : x.m = y.m) : x.n = y.n := by
  have h1 := hx.n_le (k := y.n) (by rw [h]; exact hy.lt)
  have h2 := hy.n_le (k := x.n) (by rw [← h]; exact hx.lt)
  omega
end Go.Mlab
