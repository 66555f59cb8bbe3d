/- Plain facts on digits and words, for every input. -/
import Derived.Lib.ItoaNum
import Derived.Lib.AtoiAll
namespace Go.Mlab
open Go.Lib

/-- A decimal digit. -/
def isDig (c : UInt8) : Bool := decide (48 ≤ c.toNat) && decide (c.toNat ≤ 57)
theorem isDig_iff {c : UInt8} : isDig c = true ↔ 48 ≤ c.toNat ∧ c.toNat ≤ 57 := by unfold isDig; simp
/-- What digits spell, behind what went before. -/
def dvalA (a : Nat) (l : List UInt8) : Nat := l.foldl (fun a c => a * 10 + (c.toNat - 48)) a
def dval (l : List UInt8) : Nat := dvalA 0 l
theorem dvalA_nil (a : Nat) : dvalA a [] = a := rfl
theorem dvalA_cons (a : Nat) (c : UInt8) (l : List UInt8) : dvalA a (c :: l) = dvalA (a * 10 + (c.toNat - 48)) l := by unfold dvalA; rw [List.foldl_cons]
theorem dvalA_append (a : Nat) (l m : List UInt8) : dvalA a (l ++ m) = dvalA (dvalA a l) m := by unfold dvalA; rw [List.foldl_append]
theorem dvalA_eq (l : List UInt8) : ∀ a, dvalA a l = a * 10 ^ l.length + dvalA 0 l := by
  induction l with
  | nil => intro a; rw [dvalA_nil, dvalA_nil, List.length_nil, Nat.pow_zero, Nat.mul_one, Nat.add_zero]
  | cons c l ih =>
    intro a
    have h1 := ih (a * 10 + (c.toNat - 48))
    have h2 := ih (0 * 10 + (c.toNat - 48))
    rw [dvalA_cons a, dvalA_cons 0, h1, h2, List.length_cons, Nat.pow_succ]
    generalize 10 ^ l.length = p
    generalize c.toNat - 48 = d
    generalize dvalA 0 l = v
    rw [Nat.zero_mul, Nat.zero_add, Nat.add_mul, Nat.mul_assoc, Nat.mul_comm 10 p, Nat.add_assoc]
theorem dval_append (l m : List UInt8) : dval (l ++ m) = dval l * 10 ^ m.length + dval m := by
  unfold dval; rw [dvalA_append, dvalA_eq m]
theorem dval_snoc (l : List UInt8) (c : UInt8) : dval (l ++ [c]) = dval l * 10 + (c.toNat - 48) := by
  unfold dval; rw [dvalA_append]; rfl
theorem dval_cons (c : UInt8) (l : List UInt8) : dval (c :: l) = (c.toNat - 48) * 10 ^ l.length + dval l := by
  have := dval_append [c] l
  simpa [dval, dvalA] using this
theorem dval_lt (l : List UInt8) (h : ∀ c ∈ l, isDig c = true) : dval l < 10 ^ l.length := by
  induction l with
  | nil => simp [dval, dvalA]
  | cons c l ih =>
    rw [dval_cons, List.length_cons, Nat.pow_succ]
    have h1 := ih (fun c hc => h c (List.mem_cons_of_mem _ hc))
    have h2 := isDig_iff.1 (h c List.mem_cons_self)
    have h3 : (c.toNat - 48) * 10 ^ l.length ≤ 9 * 10 ^ l.length := Nat.mul_le_mul_right _ (by omega)
    omega

theorem toNat_ofNat48 {d : Nat} (h : d < 10) : (UInt8.ofNat (48 + d)).toNat = 48 + d := by
  rw [UInt8.toNat_ofNat']; omega
theorem isDig_ofNat {d : Nat} (h : d < 10) : isDig (UInt8.ofNat (48 + d)) = true := by
  rw [isDig_iff, toNat_ofNat48 h]; omega
theorem ofNat_of_dig {c : UInt8} (h : isDig c = true) : UInt8.ofNat (48 + (c.toNat - 48)) = c := by
  have := isDig_iff.1 h
  rw [show 48 + (c.toNat - 48) = c.toNat by omega]
  simp

theorem decDigits_small {u : Nat} (h : u < 10) : decDigits u = [UInt8.ofNat (48 + u)] := by rw [decDigits, dif_pos h]
theorem decDigits_big {u : Nat} (h : ¬ u < 10) : decDigits u = decDigits (u / 10) ++ [UInt8.ofNat (48 + u % 10)] := by rw [decDigits, dif_neg h]
theorem decDigits_dig (u : Nat) : ∀ c ∈ decDigits u, isDig c = true := by
  induction u using Nat.strongRecOn with
  | _ u ih =>
    by_cases h : u < 10
    · rw [decDigits_small h]; intro c hc; rw [List.mem_singleton.1 hc]; exact isDig_ofNat h
    · rw [decDigits_big h]
      intro c hc
      rcases List.mem_append.1 hc with hc | hc
      · exact ih _ (by omega) c hc
      · rw [List.mem_singleton.1 hc]; exact isDig_ofNat (by omega)
theorem dval_decDigits (u : Nat) : dval (decDigits u) = u := by
  induction u using Nat.strongRecOn with
  | _ u ih =>
    by_cases h : u < 10
    · rw [decDigits_small h]; simp only [dval, dvalA, List.foldl]; rw [toNat_ofNat48 h]; omega
    · rw [decDigits_big h, dval_snoc, ih _ (by omega), toNat_ofNat48 (by omega)]; omega
theorem decDigits_ne_nil (u : Nat) : decDigits u ≠ [] := by
  have := nDigits_pos u
  intro h
  have h2 := decDigits_length u
  rw [h] at h2; simp at h2; omega
theorem decDigits_zero : decDigits 0 = [48] := by rw [decDigits_small (by decide)]; rfl
theorem decDigits_head (u : Nat) (h : u ≠ 0) : ∃ c r, decDigits u = c :: r ∧ isDig c = true ∧ c.toNat ≠ 48 := by
  induction u using Nat.strongRecOn with
  | _ u ih =>
    by_cases h' : u < 10
    · rw [decDigits_small h']; exact ⟨_, _, rfl, isDig_ofNat h', by rw [toNat_ofNat48 h']; omega⟩
    · rw [decDigits_big h']
      obtain ⟨c, r, e, hc, hn⟩ := ih (u / 10) (by omega) (by omega)
      rw [e]
      exact ⟨c, _, rfl, hc, hn⟩
/-- Digits without zeros in front are the numeral of what they spell. -/
theorem decDigits_dval_aux : ∀ (n : Nat) (l : List UInt8), l.length = n → l ≠ [] → (∀ c ∈ l, isDig c = true) → (∀ c r, l = c :: r → r ≠ [] → c.toNat ≠ 48) → decDigits (dval l) = l := by
  intro n
  induction n with
  | zero => intro l hl h0; exact absurd (List.eq_nil_of_length_eq_zero hl) h0
  | succ n ih =>
    intro l hl h0 hd hz
    have hs := List.dropLast_concat_getLast h0
    by_cases h1 : l.dropLast = []
    · rw [h1, List.nil_append] at hs
      rw [← hs]
      have hx := hd _ (List.getLast_mem h0)
      have hx2 := isDig_iff.1 hx
      have : dval [l.getLast h0] = (l.getLast h0).toNat - 48 := by simp [dval, dvalA]
      rw [this, decDigits_small (by omega), ofNat_of_dig hx]
    · have hx := hd _ (List.getLast_mem h0)
      have hx2 := isDig_iff.1 hx
      have ih' := ih l.dropLast (by simp [hl]) h1 (fun c hc => hd c ((List.dropLast_subset _ hc))) (by
        intro c r e hr
        obtain ⟨y, t⟩ : ∃ y, l = c :: y := by
          rw [e] at hs; exact ⟨_, hs.symm⟩
        exact hz c _ t (by
          intro hy; subst hy; rw [t] at e; simp at e))
      rw [← hs, dval_snoc]
      have hpos : dval l.dropLast ≠ 0 := by
        intro h
        rw [h, decDigits_zero] at ih'
        have e : l = 48 :: [l.getLast h0] := by rw [← ih'] at hs; exact hs.symm
        exact hz 48 _ e (by simp) rfl
      rw [decDigits_big (by omega)]
      rw [show (dval l.dropLast * 10 + ((l.getLast h0).toNat - 48)) / 10 = dval l.dropLast by omega, ih']
      rw [show (dval l.dropLast * 10 + ((l.getLast h0).toNat - 48)) % 10 = (l.getLast h0).toNat - 48 by omega, ofNat_of_dig hx]
theorem decDigits_dval (l : List UInt8) (h0 : l ≠ []) (hd : ∀ c ∈ l, isDig c = true) (hz : ∀ c r, l = c :: r → r ≠ [] → c.toNat ≠ 48) : decDigits (dval l) = l :=
  decDigits_dval_aux _ l rfl h0 hd hz
theorem decDigits_inj {u v : Nat} (h : decDigits u = decDigits v) : u = v := by
  rw [← dval_decDigits u, ← dval_decDigits v, h]
theorem nDigits_le {u k : Nat} (hk : 1 ≤ k) : nDigits u ≤ k ↔ u < 10 ^ k := by
  constructor
  · intro h; exact Nat.lt_of_lt_of_le (lt_pow_nDigits u) (Nat.pow_le_pow_right (by decide) h)
  · intro h
    by_cases h0 : u = 0
    · subst h0; rw [nDigits_small (by decide)]; exact hk
    · rcases Nat.lt_or_ge k (nDigits u) with h1 | h1
      · exfalso
        have h2 : ∃ m, nDigits u = m + 1 := ⟨nDigits u - 1, by have := nDigits_pos u; omega⟩
        obtain ⟨m, hm⟩ := h2
        obtain ⟨c, r, e, hc, hn⟩ := decDigits_head u h0
        have hl := decDigits_length u
        have hv := dval_decDigits u
        rw [e, List.length_cons] at hl
        rw [e, dval_cons] at hv
        have := isDig_iff.1 hc
        have hp : 10 ^ k ≤ 10 ^ r.length := Nat.pow_le_pow_right (by decide) (by omega)
        have hq : 1 * 10 ^ r.length ≤ (c.toNat - 48) * 10 ^ r.length := Nat.mul_le_mul_right _ (by omega)
        omega
      · exact h1
end Go.Mlab
namespace Go.Mlab
open Go.Lib

/-- The numbers that are not too long. -/
@[irreducible] def LIM : Nat := 10 ^ 1024
def fits (z : Int) : Bool := decide (z.natAbs < LIM)
theorem fits_iff {z : Int} : fits z = true ↔ nDigits z.natAbs ≤ 1024 := by
  unfold fits LIM
  rw [decide_eq_true_iff, nDigits_le (by decide)]
theorem LIM_eq : ∃ k, k = 1024 ∧ LIM = 10 ^ k := ⟨1024, rfl, by unfold LIM; rfl⟩
theorem pow_le_LIM {k : Nat} (h : k ≤ 1024) : 10 ^ k ≤ LIM := by
  obtain ⟨m, hm, e⟩ := LIM_eq
  rw [e]; exact Nat.pow_le_pow_right (by decide) (by omega)
theorem LIM_le_pow {k : Nat} (h : 1024 ≤ k) : LIM ≤ 10 ^ k := by
  obtain ⟨m, hm, e⟩ := LIM_eq
  rw [e]; exact Nat.pow_le_pow_right (by decide) (by omega)
theorem LIM_pos : 0 < LIM := by
  obtain ⟨m, hm, e⟩ := LIM_eq
  rw [e]; exact Nat.pow_pos (by decide)
theorem one_lt_LIM : 1 < LIM := by
  obtain ⟨m, hm, e⟩ := LIM_eq
  rw [e]; exact Nat.one_lt_pow (by omega) (by decide)
theorem fits_0 : fits 0 = true := by unfold fits; exact decide_eq_true LIM_pos
theorem fits_1 : fits 1 = true := by unfold fits; exact decide_eq_true one_lt_LIM
theorem fits_19 {z : Int} (h : z.natAbs < 10 ^ 19) : fits z = true := by unfold fits; exact decide_eq_true (Nat.lt_of_lt_of_le h (pow_le_LIM (by decide)))
/-- A text without a minus sign in front. -/
def bare (l : List UInt8) : List UInt8 := match l with
  | [] => []
  | c :: r => if c.toNat = 45 then r else c :: r
theorem bare_cons (c : UInt8) (r : List UInt8) : bare (c :: r) = if c.toNat = 45 then r else c :: r := rfl
/-- The number of the error of a text, or 0. -/
def chkL (l : List UInt8) : Int :=
  if bare l = [] ∨ (bare l).all isDig = false ∨ ((bare l).head?.map (·.toNat) = some 48 ∧ l ≠ [48]) then 3
  else if 1024 < (bare l).length then 11 else 0
theorem toNat45 : (45 : UInt8).toNat = 45 := rfl
theorem toNat48 : (48 : UInt8).toNat = 48 := rfl
theorem eq_of_toNat {a b : UInt8} (h : a.toNat = b.toNat) : a = b := UInt8.toNat_inj.1 h
theorem itoa_nonneg' {z : Int} (h : 0 ≤ z) : itoa z = decDigits z.natAbs := by
  unfold itoa; rw [if_neg (by omega), show z.toNat = z.natAbs by omega]
theorem itoa_neg' {z : Int} (h : z < 0) : itoa z = 45 :: decDigits z.natAbs := by
  unfold itoa; rw [if_pos h]
theorem bare_decDigits (u : Nat) : bare (decDigits u) = decDigits u := by
  have hd := decDigits_dig u
  unfold bare
  split
  · rename_i h; exact absurd h (decDigits_ne_nil u)
  · rename_i c r h
    have := isDig_iff.1 (hd c (by rw [h]; exact List.mem_cons_self))
    rw [if_neg (by omega)]; exact h.symm
theorem bare_itoa (z : Int) : bare (itoa z) = decDigits z.natAbs := by
  rcases Int.lt_or_le z 0 with h | h
  · rw [itoa_neg' h]; rw [bare_cons, if_pos toNat45]
  · rw [itoa_nonneg' h, bare_decDigits]
theorem itoa_ne_nil (z : Int) : itoa z ≠ [] := by
  rcases Int.lt_or_le z 0 with h | h
  · rw [itoa_neg' h]; simp
  · rw [itoa_nonneg' h]; exact decDigits_ne_nil _
theorem itoa_head_neg {z : Int} : (itoa z).head?.map (·.toNat) = some 45 ↔ z < 0 := by
  rcases Int.lt_or_le z 0 with h | h
  · rw [itoa_neg' h]; simp [h]
  · rw [itoa_nonneg' h]
    have hd := decDigits_dig z.natAbs
    cases e : decDigits z.natAbs with
    | nil => exact absurd e (decDigits_ne_nil _)
    | cons c r =>
      have := isDig_iff.1 (hd c (by rw [e]; exact List.mem_cons_self))
      simp; omega
theorem itoa_inj {a b : Int} (h : itoa a = itoa b) : a = b := by
  have h1 := bare_itoa a
  rw [h, bare_itoa] at h1
  have h2 := decDigits_inj h1
  have h3 := @itoa_head_neg a
  rw [h, itoa_head_neg] at h3
  omega
theorem itoa_zero : itoa 0 = [48] := by rw [itoa_nonneg' (by decide)]; exact decDigits_zero
theorem chkL_itoa (z : Int) : chkL (itoa z) = if fits z then 0 else 11 := by
  unfold chkL
  rw [bare_itoa, if_neg]
  · rw [decDigits_length]
    by_cases h : fits z = true
    · rw [if_neg (by have := fits_iff.1 h; omega), h]; rfl
    · rw [if_pos (by have := mt fits_iff.2 h; omega)]; simp [h]
  · intro h
    rcases h with h | h | ⟨h, h'⟩
    · exact decDigits_ne_nil _ h
    · have : (decDigits z.natAbs).all isDig = true := List.all_eq_true.2 (decDigits_dig _)
      rw [this] at h; cases h
    · by_cases h0 : z.natAbs = 0
      · obtain rfl : z = 0 := by omega
        exact h' itoa_zero
      · obtain ⟨c, r, e, _, hn⟩ := decDigits_head _ h0
        rw [e] at h; simp at h; exact hn h
theorem chkL_cases (l : List UInt8) : chkL l = 3 ∨ ∃ z, l = itoa z := by
  unfold chkL
  by_cases h : bare l = [] ∨ (bare l).all isDig = false ∨ ((bare l).head?.map (·.toNat) = some 48 ∧ l ≠ [48])
  · left; rw [if_pos h]
  · right
    have h1 : bare l ≠ [] := fun e => h (.inl e)
    have h2 : ∀ c ∈ bare l, isDig c = true := by
      have : (bare l).all isDig = true := by
        cases e : (bare l).all isDig with
        | true => rfl
        | false => exact absurd (.inr (.inl e)) h
      exact List.all_eq_true.1 this
    have h3 : ∀ c r, bare l = c :: r → c.toNat = 48 → l = [48] := by
      intro c r e e2
      rcases Classical.em (l = [48]) with q | q
      · exact q
      · exact absurd (.inr (.inr ⟨by rw [e]; simp [e2], q⟩)) h
    by_cases h48 : l = [48]
    · exact ⟨0, by rw [h48, itoa_zero]⟩
    have hz : ∀ c r, bare l = c :: r → r ≠ [] → c.toNat ≠ 48 := fun c r e _ e2 => h48 (h3 c r e e2)
    have hv := decDigits_dval _ h1 h2 hz
    have hne : dval (bare l) ≠ 0 := by
      intro e
      rw [e, decDigits_zero] at hv
      exact h48 (h3 48 [] hv.symm rfl)
    cases l with
    | nil => exact absurd rfl h1
    | cons c r =>
      by_cases hc : c.toNat = 45
      · have e : bare (c :: r) = r := by rw [bare_cons, if_pos hc]
        refine ⟨-(dval r : Int), ?_⟩
        rw [e] at hv hne
        rw [itoa_neg' (by omega), show (-(dval r : Int)).natAbs = dval r by omega, hv, eq_of_toNat (hc.trans toNat45.symm)]
      · have e : bare (c :: r) = c :: r := by rw [bare_cons, if_neg hc]
        rw [e] at hv
        exact ⟨(dval (c :: r) : Int), by rw [itoa_nonneg' (by omega)]; exact hv.symm⟩
theorem chkL_ok {l : List UInt8} (h : chkL l = 0) : ∃ z, l = itoa z ∧ fits z = true := by
  rcases chkL_cases l with h1 | ⟨z, rfl⟩
  · rw [h1] at h; cases h
  · refine ⟨z, rfl, ?_⟩
    rw [chkL_itoa] at h
    cases e : fits z with
    | true => rfl
    | false => rw [e] at h; simp at h
theorem chkL_vals (l : List UInt8) : chkL l = 0 ∨ chkL l = 3 ∨ chkL l = 11 := by
  unfold chkL; split
  · exact .inr (.inl rfl)
  · split
    · exact .inr (.inr rfl)
    · exact .inl rfl
end Go.Mlab
namespace Go.Mlab
open Go.Lib

/-! The words of a magnitude. -/
def mag : List Int → Int
  | [] => 0
  | a :: r => a + 1000000000 * mag r
theorem mag_nil : mag [] = 0 := rfl
theorem mag_cons (a : Int) (r : List Int) : mag (a :: r) = a + 1000000000 * mag r := rfl
def wordOk (a : Int) : Prop := 0 ≤ a ∧ a < 1000000000
def wordsOk (ws : List Int) : Prop := ∀ a ∈ ws, wordOk a
theorem wordsOk_cons {a : Int} {r : List Int} : wordsOk (a :: r) ↔ wordOk a ∧ wordsOk r := by
  unfold wordsOk; simp
def BB (k : Nat) : Int := 1000000000 ^ k
theorem BB_zero : BB 0 = 1 := rfl
theorem BB_succ (k : Nat) : BB (k + 1) = 1000000000 * BB k := by unfold BB; rw [Int.pow_succ, Int.mul_comm]
theorem BB_pos (k : Nat) : 0 < BB k := by
  induction k with
  | zero => decide
  | succ k ih => rw [BB_succ]; omega
theorem BB_add (j k : Nat) : BB (j + k) = BB j * BB k := by unfold BB; exact Int.pow_add _ _ _
theorem BB_mono {j k : Nat} (h : j ≤ k) : BB j ≤ BB k := by
  induction k with
  | zero => obtain rfl : j = 0 := by omega
            exact Int.le_refl _
  | succ k ih =>
    rcases Nat.lt_or_ge j (k + 1) with h1 | h1
    · have := ih (by omega); have := BB_pos k; rw [BB_succ]; omega
    · obtain rfl : j = k + 1 := by omega
      exact Int.le_refl _
theorem mag_nonneg {ws : List Int} (h : wordsOk ws) : 0 ≤ mag ws := by
  induction ws with
  | nil => exact Int.le_refl _
  | cons a r ih => rw [wordsOk_cons] at h; have := ih h.2; have := h.1; unfold wordOk at this; rw [mag_cons]; omega
theorem mag_lt {ws : List Int} (h : wordsOk ws) : mag ws < BB ws.length := by
  induction ws with
  | nil => decide
  | cons a r ih => rw [wordsOk_cons] at h; have := ih h.2; have := h.1; unfold wordOk at this; rw [mag_cons, List.length_cons, BB_succ]; omega
theorem mag_append (a b : List Int) : mag (a ++ b) = mag a + BB a.length * mag b := by
  induction a with
  | nil => rw [List.nil_append, mag_nil, List.length_nil, BB_zero]; omega
  | cons x a ih => rw [List.cons_append, mag_cons, mag_cons, List.length_cons, BB_succ, ih]; grind
theorem mag_zeros (k : Nat) : mag (List.replicate k 0) = 0 := by
  induction k with
  | zero => rfl
  | succ k ih => rw [List.replicate_succ, mag_cons, ih]; rfl
theorem mag_set (ws : List Int) (k : Nat) (v : Int) (h : k < ws.length) : mag (ws.set k v) = mag ws + (v - ws.getD k 0) * BB k := by
  induction ws generalizing k with
  | nil => simp at h
  | cons a r ih =>
    cases k with
    | zero => simp only [List.set_cons_zero, mag_cons, List.getD_cons_zero, BB_zero]; omega
    | succ k =>
      simp only [List.set_cons_succ, mag_cons, List.getD_cons_succ, BB_succ]
      rw [ih k (by simpa using h)]; grind
theorem wordsOk_set {ws : List Int} (h : wordsOk ws) (k : Nat) {v : Int} (hv : wordOk v) : wordsOk (ws.set k v) := by
  intro a ha
  rcases List.mem_or_eq_of_mem_set ha with h1 | h1
  · exact h a h1
  · rw [h1]; exact hv
theorem wordsOk_get {ws : List Int} (h : wordsOk ws) (k : Nat) : wordOk (ws.getD k 0) := by
  rcases Nat.lt_or_ge k ws.length with h1 | h1
  · rw [List.getD_eq_getElem?_getD, List.getElem?_eq_getElem h1]; exact h _ (List.getElem_mem h1)
  · rw [List.getD_eq_getElem?_getD, List.getElem?_eq_none h1]; unfold wordOk; simp
theorem mag_take_succ (ws : List Int) (k : Nat) (h : k < ws.length) : mag (ws.take (k + 1)) = mag (ws.take k) + ws.getD k 0 * BB k := by
  rw [List.take_succ_eq_append_getElem h, mag_append, List.length_take, Nat.min_eq_left (by omega), mag_cons, mag_nil, List.getD_eq_getElem?_getD, List.getElem?_eq_getElem h]
  simp only [Option.getD_some]; grind

/-! An integer: its sign, how many words it has, and the words, 232 in all. -/
structure Wide where
  less : Bool
  n : Nat
  ws : List Int
structure WideOk (x : Wide) : Prop where
  len : x.ws.length = 232
  ok : wordsOk x.ws
  le : x.n ≤ 232
  zero : ∀ i, x.n ≤ i → x.ws.getD i 0 = 0
  trim : x.n ≠ 0 → x.ws.getD (x.n - 1) 0 ≠ 0
def Wide.m (x : Wide) : Int := mag x.ws
def Wide.z (x : Wide) : Int := if x.less then -x.m else x.m
theorem mag_drop_zero : ∀ (ws : List Int), (∀ i, ws.getD i 0 = 0) → mag ws = 0
  | [], _ => rfl
  | a :: r, h => by
    have h0 := h 0
    simp at h0
    rw [mag_cons, mag_drop_zero r (fun i => by have := h (i + 1); simpa using this), h0]; rfl
theorem mag_take_of_zero (ws : List Int) (n : Nat) (h : ∀ i, n ≤ i → ws.getD i 0 = 0) : mag (ws.take n) = mag ws := by
  have h1 := mag_append (ws.take n) (ws.drop n)
  rw [List.take_append_drop] at h1
  have h2 : mag (ws.drop n) = 0 := mag_drop_zero _ (fun i => by
    have := h (n + i) (by omega)
    rw [List.getD_eq_getElem?_getD, List.getElem?_drop]; rw [List.getD_eq_getElem?_getD] at this; exact this)
  rw [h2] at h1; omega
theorem WideOk.m_take {x : Wide} (h : WideOk x) : mag (x.ws.take x.n) = x.m := mag_take_of_zero _ _ h.zero
theorem WideOk.nonneg {x : Wide} (h : WideOk x) : 0 ≤ x.m := mag_nonneg h.ok
theorem WideOk.lt {x : Wide} (h : WideOk x) : x.m < BB x.n := by
  rw [← h.m_take]
  have := mag_lt (ws := x.ws.take x.n) (fun a ha => h.ok a (List.mem_of_mem_take ha))
  rw [List.length_take, h.len, Nat.min_eq_left h.le] at this
  exact this
/-- The value of a magnitude that is not 0 is at least its highest place. -/
theorem WideOk.ge {x : Wide} (h : WideOk x) (h0 : x.n ≠ 0) : BB (x.n - 1) ≤ x.m := by
  have e : x.n - 1 + 1 = x.n := by omega
  have h1 := mag_take_succ x.ws (x.n - 1) (by rw [h.len]; have := h.le; omega)
  rw [e, h.m_take] at h1
  have h2 := mag_nonneg (ws := x.ws.take (x.n - 1)) (fun a ha => h.ok a (List.mem_of_mem_take ha))
  have h3 := wordsOk_get h.ok (x.n - 1)
  have h4 := h.trim h0
  unfold wordOk at h3
  have h5 : 1 * BB (x.n - 1) ≤ x.ws.getD (x.n - 1) 0 * BB (x.n - 1) := Int.mul_le_mul_of_nonneg_right (by omega) (Int.le_of_lt (BB_pos _))
  omega
theorem WideOk.n_zero {x : Wide} (h : WideOk x) : x.n = 0 ↔ x.m = 0 := by
  constructor
  · intro h0; have h1 := h.lt; have h2 := h.nonneg; rw [h0, BB_zero] at h1; omega
  · intro h0
    rcases Nat.eq_zero_or_pos x.n with h1 | h1
    · exact h1
    · have := h.ge (by omega); have := BB_pos (x.n - 1); omega
theorem BB_lt_of {j k : Nat} (h : BB j < BB k) : j < k := by
  rcases Nat.lt_or_ge j k with h1 | h1
  · exact h1
  · have := BB_mono h1; omega
theorem WideOk.n_le {x : Wide} (h : WideOk x) {k : Nat} (hk : x.m < BB k) : x.n ≤ k := by
  rcases Nat.eq_zero_or_pos x.n with h1 | h1
  · omega
  · have := h.ge (by omega)
    have := BB_lt_of (Int.lt_of_le_of_lt this hk)
    omega
/-- Equal magnitudes have equal words. -/
theorem mag_inj : ∀ {a b : List Int}, wordsOk a → wordsOk b → a.length = b.length → mag a = mag b → a = b
  | [], [], _, _, _, _ => rfl
  | [], _ :: _, _, _, h, _ => by simp at h
  | _ :: _, [], _, _, h, _ => by simp at h
  | x :: a, y :: b, ha, hb, hl, hm => by
    rw [wordsOk_cons] at ha hb
    rw [mag_cons, mag_cons] at hm
    have h1 := ha.1; have h2 := hb.1; unfold wordOk at h1 h2
    have h3 : x = y := by omega
    rw [h3, mag_inj ha.2 hb.2 (by simpa using hl) (by omega)]
theorem WideOk.n_eq {x y : Wide} (hx : WideOk x) (hy : WideOk y) (h : x.m = y.m) : x.n = y.n := by
  have h1 := hx.n_le (k := y.n) (by rw [h]; exact hy.lt)
  have h2 := hy.n_le (k := x.n) (by rw [← h]; exact hx.lt)
  omega
end Go.Mlab
