import Derived.Test.YtdkfebfedfemaaaGreatDoorM3
set_option linter.unusedVariables false
set_option linter.unusedSimpArgs false
namespace Go.Mlab
open Go.Lib

/-! The text of words: nine digits a word behind the first one. -/
def pad9 (v : Nat) : List UInt8 := List.replicate (9 - (decDigits v).length) 48 ++ decDigits v
theorem dval_replicate (k : Nat) : dval (List.replicate k 48) = 0 := by
  induction k with
  | zero => simp [dval, dvalA]
  | succ k ih => rw [List.replicate_succ, dval_cons, ih, toNat48]; omega
theorem dval_pad9 (v : Nat) : dval (pad9 v) = v := by
  unfold pad9; rw [dval_append, dval_replicate, dval_decDigits]; omega
theorem nDigits_le9 {v : Nat} (h : v < 1000000000) : nDigits v ≤ 9 := (nDigits_le (by decide)).2 (by simpa using h)
theorem pad9_length {v : Nat} (h : v < 1000000000) : (pad9 v).length = 9 := by
  unfold pad9
  have := nDigits_le9 h
  rw [List.length_append, List.length_replicate, decDigits_length]; omega
theorem pad9_dig (v : Nat) : ∀ c ∈ pad9 v, isDig c = true := by
  intro c hc
  unfold pad9 at hc
  rcases List.mem_append.1 hc with h | h
  · rw [List.eq_of_mem_replicate h]; rfl
  · exact decDigits_dig v c h
theorem decDigits_pad9 {a b : Nat} (ha : 1 ≤ a) (hb : b < 1000000000) : decDigits (a * 1000000000 + b) = decDigits a ++ pad9 b := by
  have h := decDigits_dval (decDigits a ++ pad9 b) (by have := decDigits_ne_nil a; simp [this]) (by
    intro c hc
    rcases List.mem_append.1 hc with h | h
    · exact decDigits_dig a c h
    · exact pad9_dig b c h) (by
    intro c r e _
    obtain ⟨c', r', e', _, hn⟩ := decDigits_head a (by omega)
    rw [e', List.cons_append] at e
    injection e with e1 e2
    rw [← e1]; exact hn)
  rw [dval_append, dval_decDigits, dval_pad9, pad9_length hb] at h
  exact h
/-- What the builder holds behind the words from k on up: the words k, k + 1, .. of a magnitude. -/
theorem decDigits_words {ws : List Int} (hw : wordsOk ws) (k : Nat) (hk : k < ws.length) (h1 : 1 ≤ mag (ws.drop (k + 1))) :
    decDigits (mag (ws.drop k)).toNat = decDigits (mag (ws.drop (k + 1))).toNat ++ pad9 (ws.getD k 0).toNat := by
  have e : ws.drop k = ws.getD k 0 :: ws.drop (k + 1) := by
    rw [List.getD_eq_getElem?_getD, List.getElem?_eq_getElem hk]; exact List.drop_eq_getElem_cons hk
  have h2 := wordsOk_get hw k
  unfold wordOk at h2
  rw [e, mag_cons]
  rw [show (ws.getD k 0 + 1000000000 * mag (ws.drop (k + 1))).toNat = (mag (ws.drop (k + 1))).toNat * 1000000000 + (ws.getD k 0).toNat by omega]
  exact decDigits_pad9 (by omega) (by omega)
theorem mag_drop_one (ws : List Int) (k : Nat) (hk : k < ws.length) (h : ∀ i, k + 1 ≤ i → ws.getD i 0 = 0) : mag (ws.drop k) = ws.getD k 0 := by
  have e : ws.drop k = ws.getD k 0 :: ws.drop (k + 1) := by
    rw [List.getD_eq_getElem?_getD, List.getElem?_eq_getElem hk]; exact List.drop_eq_getElem_cons hk
  rw [e, mag_cons, mag_drop_zero _ (fun i => by
    have := h (k + 1 + i) (by omega)
    rw [List.getD_eq_getElem?_getD, List.getElem?_drop]; rw [List.getD_eq_getElem?_getD] at this; exact this)]; omega

/-! Carrying. -/
/-- What holds at the head of the round i: 'rest' is still to be added at the place i + up. -/
structure Carry (w0 ys : List Int) (factor : Int) (up ny : Nat) (i : Nat) (rest : Int) (n : Nat) (ws : List Int) : Prop where
  len : ws.length = 232
  ok : wordsOk ws
  le : n ≤ 232
  zero : ∀ j, n ≤ j → ws.getD j 0 = 0
  at_ : i + up ≤ 232
  lo : -1000000002 ≤ rest
  hi : rest ≤ 1000000002
  sum : mag ws + rest * BB (i + up) = mag w0 + factor * (BB up * mag (ys.take i))
theorem Carry.start {w0 ys : List Int} {factor : Int} {up ny n : Nat} (hl : w0.length = 232) (hok : wordsOk w0) (hn : n ≤ 232) (hz : ∀ j, n ≤ j → w0.getD j 0 = 0) (hup : up ≤ 232) : Carry w0 ys factor up ny 0 0 n w0 :=
  ⟨hl, hok, hn, hz, by omega, by omega, by omega, by simp [mag_nil]⟩
/-- Beyond the words there is nothing left to carry. -/
theorem Carry.inside {w0 ys ws : List Int} {factor rest : Int} {up ny i n : Nat} (h : Carry w0 ys factor up ny i rest n ws) (hys : ∀ j, ny ≤ j → ys.getD j 0 = 0)
    (h0 : 0 ≤ mag w0 + factor * (BB up * mag ys)) (h1 : mag w0 + factor * (BB up * mag ys) < BB 232) (hi : ny ≤ i) (hr : rest ≠ 0) : i + up < 232 := by
  rcases Nat.lt_or_ge (i + up) 232 with h2 | h2
  · exact h2
  · exfalso
    have e : i + up = 232 := by have := h.at_; omega
    have hs := h.sum
    rw [e, mag_take_of_zero ys i (fun j hj => hys j (by omega))] at hs
    have a1 := mag_nonneg h.ok
    have a2 := mag_lt h.ok
    rw [h.len] at a2
    have hp := BB_pos 232
    generalize BB 232 = b at *
    rcases Int.lt_or_le rest 0 with q | q
    · have : rest * b ≤ (-1) * b := Int.mul_le_mul_of_nonneg_right (by omega) (by omega)
      omega
    · have : 1 * b ≤ rest * b := Int.mul_le_mul_of_nonneg_right (by omega) (by omega)
      omega
/-- One round. 's' is what stands at the place; r and q are its floor quotient and remainder. -/
theorem Carry.step {w0 ys ws : List Int} {factor rest : Int} {up ny i n : Nat} (h : Carry w0 ys factor up ny i rest n ws) (hy : wordsOk ys)
    (hf0 : -1000000000 ≤ factor) (hf1 : factor ≤ 1000000000) (hp : i + up < 232) (r q : Int)
    (hq : ws.getD (i + up) 0 + rest + factor * ys.getD i 0 = r * 1000000000 + q) (h0 : 0 ≤ q) (h1 : q < 1000000000) (hiy : i < ys.length) :
    Carry w0 ys factor up ny (i + 1) r (max n (i + up + 1)) (ws.set (i + up) q) := by
  have hw := wordsOk_get h.ok (i + up)
  have hyi := wordsOk_get hy i
  unfold wordOk at hw hyi
  have b1 := h.lo; have b2 := h.hi
  have c1 : factor * ys.getD i 0 ≤ 1000000000 * 999999999 := by
    have : factor * ys.getD i 0 ≤ 1000000000 * ys.getD i 0 := Int.mul_le_mul_of_nonneg_right hf1 hyi.1
    omega
  have c2 : -1000000000 * 999999999 ≤ factor * ys.getD i 0 := by
    have : -1000000000 * ys.getD i 0 ≤ factor * ys.getD i 0 := Int.mul_le_mul_of_nonneg_right hf0 hyi.1
    omega
  refine ⟨by rw [List.length_set]; exact h.len, wordsOk_set h.ok _ ⟨h0, h1⟩, by have := h.le; omega, ?_, by omega, ?_, ?_, ?_⟩
  · intro j hj
    have hj2 : j ≠ i + up := by omega
    rw [List.getD_eq_getElem?_getD, List.getElem?_set_ne (by omega), ← List.getD_eq_getElem?_getD]
    exact h.zero j (by omega)
  · generalize factor * ys.getD i 0 = p at *
    omega
  · generalize factor * ys.getD i 0 = p at *
    omega
  · rw [mag_set _ _ _ (by rw [h.len]; exact hp), mag_take_succ _ _ hiy]
    have hs := h.sum
    rw [show i + 1 + up = i + up + 1 by omega, BB_succ]
    have e : BB (i + up) = BB i * BB up := BB_add i up
    rw [Int.mul_add, Int.mul_add, ← Int.add_assoc, ← hs, e] at *
    generalize ws.getD (i + up) 0 = a at *
    generalize ys.getD i 0 = y at *
    generalize BB i = p at *
    generalize BB up = u at *
    have hq' : q = a + rest + factor * y - r * 1000000000 := by omega
    rw [hq']
    grind
/-- Go's quotient of a sum, and what is left. -/
theorem tdiv_parts (s : Int) (h0 : -2000000000000000000 ≤ s) (h1 : s ≤ 2000000000000000000) : ∃ r : Int, s.tdiv 1000000000 = r ∧ -1000000000 < s - r * 1000000000 ∧ s - r * 1000000000 < 1000000000 ∧ -2000000000 ≤ r ∧ r ≤ 2000000000 := by
  refine ⟨_, rfl, ?_⟩
  rcases Int.lt_or_le s 0 with h | h
  · obtain ⟨t, rfl⟩ : ∃ t, s = -t := ⟨-s, by omega⟩
    rw [Int.neg_tdiv, Int.tdiv_eq_ediv_of_nonneg (by omega)]
    omega
  · rw [Int.tdiv_eq_ediv_of_nonneg h]
    omega
theorem mul_bounds {f y : Int} (hf0 : -1000000000 ≤ f) (hf1 : f ≤ 1000000000) (hy : wordOk y) : -1000000000000000000 ≤ f * y ∧ f * y ≤ 1000000000000000000 := by
  unfold wordOk at hy
  have c1 : f * y ≤ 1000000000 * y := Int.mul_le_mul_of_nonneg_right hf1 hy.1
  have c2 : -1000000000 * y ≤ f * y := Int.mul_le_mul_of_nonneg_right hf0 hy.1
  omega
def trimN (ws : List Int) : Nat → Nat
  | 0 => 0
  | n + 1 => if ws.getD n 0 = 0 then trimN ws n else n + 1

theorem trimN_le (ws : List Int) : ∀ n, trimN ws n ≤ n
  | 0 => Nat.le_refl _
  | n + 1 => by simp only [trimN]; split; exact Nat.le_succ_of_le (trimN_le ws n); exact Nat.le_refl _
theorem trimN_zero (ws : List Int) : ∀ n, (∀ i, n ≤ i → ws.getD i 0 = 0) → ∀ i, trimN ws n ≤ i → ws.getD i 0 = 0
  | 0, h => h
  | n + 1, h => by
    simp only [trimN]
    split
    · rename_i h0
      exact trimN_zero ws n (fun i hi => by
        rcases Nat.lt_or_ge i (n + 1) with h1 | h1
        · obtain rfl : i = n := by omega
          exact h0
        · exact h i h1)
    · exact h
theorem trimN_trim (ws : List Int) : ∀ n, trimN ws n ≠ 0 → ws.getD (trimN ws n - 1) 0 ≠ 0
  | 0 => fun h => absurd rfl h
  | n + 1 => by
    simp only [trimN]
    split
    · exact trimN_trim ws n
    · rename_i h0; intro _; exact h0
theorem trim_ok {less : Bool} {ws : List Int} {n : Nat} (hl : ws.length = 232) (hok : wordsOk ws) (hn : n ≤ 232) (hz : ∀ i, n ≤ i → ws.getD i 0 = 0) : WideOk ⟨less, trimN ws n, ws⟩ :=
  ⟨hl, hok, Nat.le_trans (trimN_le ws n) hn, trimN_zero ws n hz, trimN_trim ws n⟩

/-- What carry asks of what it adds to: words, of which those beyond n are 0. -/
structure Loose (x : Wide) : Prop where
  len : x.ws.length = 232
  ok : wordsOk x.ws
  le : x.n ≤ 232
  zero : ∀ i, x.n ≤ i → x.ws.getD i 0 = 0
theorem WideOk.loose {x : Wide} (h : WideOk x) : Loose x := ⟨h.len, h.ok, h.le, h.zero⟩

/-- How two magnitudes of one length compare: the first word from above in which they part decides. -/
theorem mag_parts (ws : List Int) (k : Nat) (h : k < ws.length) : mag ws = mag (ws.take k) + ws.getD k 0 * BB k + BB (k + 1) * mag (ws.drop (k + 1)) := by
  have h1 := mag_append (ws.take (k + 1)) (ws.drop (k + 1))
  rw [List.take_append_drop, List.length_take, Nat.min_eq_left (by omega), mag_take_succ ws k h] at h1
  exact h1
theorem drop_eq_of {a b : List Int} {k : Nat} (hl : a.length = b.length) (h : ∀ j, k ≤ j → a.getD j 0 = b.getD j 0) : a.drop k = b.drop k := by
  apply List.ext_getElem
  · simp [hl]
  · intro i h1 h2
    rw [List.getElem_drop, List.getElem_drop]
    have := h (k + i) (by omega)
    simp only [List.length_drop] at h1 h2
    rw [List.getD_eq_getElem?_getD, List.getD_eq_getElem?_getD, List.getElem?_eq_getElem (by omega), List.getElem?_eq_getElem (by omega)] at this
    exact this
theorem mag_order {x y : Wide} (hx : WideOk x) (hy : WideOk y) {k : Nat} (hk : k < 232) (h : ∀ j, k + 1 ≤ j → x.ws.getD j 0 = y.ws.getD j 0) (hne : x.ws.getD k 0 ≠ y.ws.getD k 0) :
    0 ≤ x.ws.getD k 0 - y.ws.getD k 0 ↔ y.m ≤ x.m := by
  have e1 := mag_parts x.ws k (by rw [hx.len]; exact hk)
  have e2 := mag_parts y.ws k (by rw [hy.len]; exact hk)
  rw [drop_eq_of (hx.len.trans hy.len.symm) h] at e1
  have a0 := mag_nonneg (ws := x.ws.take k) (fun a ha => hx.ok a (List.mem_of_mem_take ha))
  have b0 := mag_nonneg (ws := y.ws.take k) (fun a ha => hy.ok a (List.mem_of_mem_take ha))
  have a1 := mag_lt (ws := x.ws.take k) (fun a ha => hx.ok a (List.mem_of_mem_take ha))
  have b1 := mag_lt (ws := y.ws.take k) (fun a ha => hy.ok a (List.mem_of_mem_take ha))
  rw [List.length_take, hx.len, Nat.min_eq_left (by omega)] at a1
  rw [List.length_take, hy.len, Nat.min_eq_left (by omega)] at b1
  unfold Wide.m
  rw [e1, e2]
  have hp := BB_pos k
  generalize x.ws.getD k 0 = p at *
  generalize y.ws.getD k 0 = q at *
  generalize BB k = b at *
  generalize BB (k + 1) * mag (y.ws.drop (k + 1)) = t at *
  generalize mag (x.ws.take k) = u at *
  generalize mag (y.ws.take k) = v at *
  rcases Int.lt_or_le p q with h1 | h1
  · have : (p + 1) * b ≤ q * b := Int.mul_le_mul_of_nonneg_right (by omega) (by omega)
    rw [Int.add_mul] at this
    constructor <;> intro h2 <;> omega
  · have : (q + 1) * b ≤ p * b := Int.mul_le_mul_of_nonneg_right (by omega) (by omega)
    rw [Int.add_mul] at this
    constructor <;> intro h2 <;> omega
theorem n_order {x y : Wide} (hx : WideOk x) (hy : WideOk y) (hne : x.n ≠ y.n) : 0 ≤ (x.n : Int) - (y.n : Int) ↔ y.m ≤ x.m := by
  rcases Nat.lt_or_ge x.n y.n with h | h
  · have h1 := hy.ge (by omega)
    have h2 := BB_mono (show x.n ≤ y.n - 1 by omega)
    have h3 := hx.lt
    constructor <;> intro h4 <;> omega
  · have h1 := hx.ge (by omega)
    have h2 := BB_mono (show y.n ≤ x.n - 1 by omega)
    have h3 := hy.lt
    constructor <;> intro h4 <;> omega
theorem m_eq_of {x y : Wide} (hx : WideOk x) (hy : WideOk y) (h : ∀ j, x.ws.getD j 0 = y.ws.getD j 0) : x.m = y.m := by
  have := drop_eq_of (k := 0) (hx.len.trans hy.len.symm) (fun j _ => h j)
  simp only [List.drop_zero] at this
  unfold Wide.m; rw [this]
/-! Long division, a word at a time. -/
theorem mag_drop_succ (ws : List Int) (k : Nat) (h : k < ws.length) : mag (ws.drop k) = ws.getD k 0 + 1000000000 * mag (ws.drop (k + 1)) := by
  have e : ws.drop k = ws.getD k 0 :: ws.drop (k + 1) := by
    rw [List.getD_eq_getElem?_getD, List.getElem?_eq_getElem h]; exact List.drop_eq_getElem_cons h
  rw [e, mag_cons]
/-- The remainder, a word higher, with the next word below. -/
def shifted (ws : List Int) (n : Nat) (v : Int) : List Int := v :: (ws.take n ++ ws.drop (n + 1))
theorem shifted_len {ws : List Int} {n : Nat} {v : Int} (hl : ws.length = 232) (hn : n ≤ 231) : (shifted ws n v).length = 232 := by
  simp [shifted, hl]; omega
theorem shifted_ok {ws : List Int} {n : Nat} {v : Int} (h : wordsOk ws) (hv : wordOk v) : wordsOk (shifted ws n v) := by
  intro a ha
  simp only [shifted, List.mem_cons, List.mem_append] at ha
  rcases ha with rfl | ha | ha
  · exact hv
  · exact h a (List.mem_of_mem_take ha)
  · exact h a (List.mem_of_mem_drop ha)
theorem shifted_zero {ws : List Int} {n : Nat} {v : Int} (hl : ws.length = 232) (hn : n ≤ 231) (hz : ∀ i, n ≤ i → ws.getD i 0 = 0) : ∀ i, n + 1 ≤ i → (shifted ws n v).getD i 0 = 0 := by
  intro i hi
  obtain ⟨j, rfl⟩ : ∃ j, i = n + 1 + j := ⟨i - (n + 1), by omega⟩
  unfold shifted
  rw [show n + 1 + j = (n + j) + 1 by omega, List.getD_cons_succ, List.getD_eq_getElem?_getD, List.getElem?_append_right (by simp [hl]; omega), List.length_take, hl, Nat.min_eq_left (by omega), List.getElem?_drop]
  have := hz (n + 1 + (n + j - n)) (by omega)
  rw [List.getD_eq_getElem?_getD] at this
  exact this
theorem shifted_m {ws : List Int} {n : Nat} {v : Int} (hz : ∀ i, n ≤ i → ws.getD i 0 = 0) : mag (shifted ws n v) = v + 1000000000 * mag ws := by
  unfold shifted
  rw [mag_cons, mag_append, mag_take_of_zero ws n hz]
  have : mag (ws.drop (n + 1)) = 0 := mag_drop_zero _ (fun i => by
    have := hz (n + 1 + i) (by omega)
    rw [List.getD_eq_getElem?_getD, List.getElem?_drop]; rw [List.getD_eq_getElem?_getD] at this; exact this)
  rw [this]; omega
/-- What the outer loop of the division keeps: the words from k on are divided. -/
structure Div (xs : List Int) (ym : Int) (k : Nat) (qs : List Int) (qn : Nat) (rm : Int) : Prop where
  len : qs.length = 232
  ok : wordsOk qs
  le : qn ≤ 232
  zero : ∀ i, qn ≤ i → qs.getD i 0 = 0
  r0 : 0 ≤ rm
  r1 : rm < ym
  sum : mag (xs.drop k) = mag (qs.drop k) * ym + rm
theorem Div.step {xs : List Int} {ym : Int} {k : Nat} {qs : List Int} {qn : Nat} {rm : Int} (h : Div xs ym (k + 1) qs qn rm) (hx : xs.length = 232) (hk : k < 232) {d r : Int} (hr0 : 0 ≤ r) (hr1 : r < ym)
    (hd0 : 0 ≤ d) (hd1 : d < 1000000000) (e : r + d * ym = xs.getD k 0 + 1000000000 * rm) : Div xs ym k (qs.set k d) (max qn (k + 1)) r := by
  refine ⟨by rw [List.length_set]; exact h.len, wordsOk_set h.ok k ⟨hd0, hd1⟩, by have := h.le; omega, ?_, hr0, hr1, ?_⟩
  · intro i hi
    rw [List.getD_eq_getElem?_getD, List.getElem?_set_ne (by omega), ← List.getD_eq_getElem?_getD]
    exact h.zero i (by omega)
  · rw [mag_drop_succ xs k (by omega), mag_drop_succ (qs.set k d) k (by rw [List.length_set, h.len]; exact hk), h.sum]
    have e1 : (qs.set k d).getD k 0 = d := by rw [List.getD_eq_getElem?_getD, List.getElem?_set_self (by rw [h.len]; exact hk)]; rfl
    have e2 : (qs.set k d).drop (k + 1) = qs.drop (k + 1) := by rw [List.drop_set_of_lt (by omega)]
    rw [e1, e2]
    generalize mag (qs.drop (k + 1)) = u at *
    grind
theorem digit_lt {d ym r xm rm : Int} (e : r + d * ym = xm + 1000000000 * rm) (hx : xm < 1000000000) (hr0 : 0 ≤ r) (hr1 : rm < ym) (hy : 0 ≤ ym) : d < 1000000000 := by
  rcases Int.lt_or_le d 1000000000 with h | h
  · exact h
  · have h1 : 1000000000 * ym ≤ d * ym := Int.mul_le_mul_of_nonneg_right h hy
    omega
end Go.Mlab
