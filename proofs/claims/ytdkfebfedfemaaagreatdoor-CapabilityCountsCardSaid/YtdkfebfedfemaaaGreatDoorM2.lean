import Derived.Test.YtdkfebfedfemaaaGreatDoorM1
namespace Go.Mlab
open Go.Lib

/-- The numbers that are not too long. -/
@[irreducible] def LIM : Nat := 10 ^ 1024
def fits (z : Int) : Bool := decide (z.natAbs < LIM)
theorem fits_iff {z : Int} : fits z = true ↔ nDigits z.natAbs ≤ 1024 := by
  unfold fits LIM
  rw [decide_eq_true_iff, nDigits_le (by decide)]
theorem LIM_eq : ∃ k, k = 1024 ∧ LIM = 10 ^ k := ⟨1024, rfl, by unfold LIM; rfl⟩
theorem pow_le_LIM {k : Nat} (h : k ≤ 1024) : 10 ^ k ≤ LIM := by
  obtain ⟨m, hm, e⟩ := LIM_eq
  rw [e]; exact Nat.pow_le_pow_right (by decide) (by omega)
theorem LIM_le_pow {k : Nat} (h : 1024 ≤ k) : LIM ≤ 10 ^ k := by
  obtain ⟨m, hm, e⟩ := LIM_eq
  rw [e]; exact Nat.pow_le_pow_right (by decide) (by omega)
theorem LIM_pos : 0 < LIM := by
  obtain ⟨m, hm, e⟩ := LIM_eq
  rw [e]; exact Nat.pow_pos (by decide)
theorem one_lt_LIM : 1 < LIM := by
  obtain ⟨m, hm, e⟩ := LIM_eq
  rw [e]; exact Nat.one_lt_pow (by omega) (by decide)
theorem fits_0 : fits 0 = true := by unfold fits; exact decide_eq_true LIM_pos
theorem fits_1 : fits 1 = true := by unfold fits; exact decide_eq_true one_lt_LIM
theorem fits_19 {z : Int} (h : z.natAbs < 10 ^ 19) : fits z = true := by unfold fits; exact decide_eq_true (Nat.lt_of_lt_of_le h (pow_le_LIM (by decide)))
/-- A text without a minus sign in front. -/
def bare (l : List UInt8) : List UInt8 := match l with
  | [] => []
  | c :: r => if c.toNat = 45 then r else c :: r
theorem bare_cons (c : UInt8) (r : List UInt8) : bare (c :: r) = if c.toNat = 45 then r else c :: r := rfl
/-- The number of the error of a text, or 0. -/
def chkL (l : List UInt8) : Int :=
  if bare l = [] ∨ (bare l).all isDig = false ∨ ((bare l).head?.map (·.toNat) = some 48 ∧ l ≠ [48]) then 3
  else if 1024 < (bare l).length then 11 else 0
theorem toNat45 : (45 : UInt8).toNat = 45 := rfl
theorem toNat48 : (48 : UInt8).toNat = 48 := rfl
theorem eq_of_toNat {a b : UInt8} (h : a.toNat = b.toNat) : a = b := UInt8.toNat_inj.1 h
theorem itoa_nonneg' {z : Int} (h : 0 ≤ z) : itoa z = decDigits z.natAbs := by
  unfold itoa; rw [if_neg (by omega), show z.toNat = z.natAbs by omega]
theorem itoa_neg' {z : Int} (h : z < 0) : itoa z = 45 :: decDigits z.natAbs := by
  unfold itoa; rw [if_pos h]
theorem bare_decDigits (u : Nat) : bare (decDigits u) = decDigits u := by
  have hd := decDigits_dig u
  unfold bare
  split
  · rename_i h; exact absurd h (decDigits_ne_nil u)
  · rename_i c r h
    have := isDig_iff.1 (hd c (by rw [h]; exact List.mem_cons_self))
    rw [if_neg (by omega)]; exact h.symm
theorem bare_itoa (z : Int) : bare (itoa z) = decDigits z.natAbs := by
  rcases Int.lt_or_le z 0 with h | h
  · rw [itoa_neg' h]; rw [bare_cons, if_pos toNat45]
  · rw [itoa_nonneg' h, bare_decDigits]
theorem itoa_ne_nil (z : Int) : itoa z ≠ [] := by
  rcases Int.lt_or_le z 0 with h | h
  · rw [itoa_neg' h]; simp
  · rw [itoa_nonneg' h]; exact decDigits_ne_nil _
theorem itoa_head_neg {z : Int} : (itoa z).head?.map (·.toNat) = some 45 ↔ z < 0 := by
  rcases Int.lt_or_le z 0 with h | h
  · rw [itoa_neg' h]; simp [h]
  · rw [itoa_nonneg' h]
    have hd := decDigits_dig z.natAbs
    cases e : decDigits z.natAbs with
    | nil => exact absurd e (decDigits_ne_nil _)
    | cons c r =>
      have := isDig_iff.1 (hd c (by rw [e]; exact List.mem_cons_self))
      simp; omega
theorem itoa_inj {a b : Int} (h : itoa a = itoa b) : a = b := by
  have h1 := bare_itoa a
  rw [h, bare_itoa] at h1
  have h2 := decDigits_inj h1
  have h3 := @itoa_head_neg a
  rw [h, itoa_head_neg] at h3
  omega
theorem itoa_zero : itoa 0 = [48] := by rw [itoa_nonneg' (by decide)]; exact decDigits_zero
theorem chkL_itoa (z : Int) : chkL (itoa z) = if fits z then 0 else 11 := by
  unfold chkL
  rw [bare_itoa, if_neg]
  · rw [decDigits_length]
    by_cases h : fits z = true
    · rw [if_neg (by have := fits_iff.1 h; omega), h]; rfl
    · rw [if_pos (by have := mt fits_iff.2 h; omega)]; simp [h]
  · intro h
    rcases h with h | h | ⟨h, h'⟩
    · exact decDigits_ne_nil _ h
    · have : (decDigits z.natAbs).all isDig = true := List.all_eq_true.2 (decDigits_dig _)
      rw [this] at h; cases h
    · by_cases h0 : z.natAbs = 0
      · obtain rfl : z = 0 := by omega
        exact h' itoa_zero
      · obtain ⟨c, r, e, _, hn⟩ := decDigits_head _ h0
        rw [e] at h; simp at h; exact hn h
theorem chkL_cases (l : List UInt8) : chkL l = 3 ∨ ∃ z, l = itoa z := by
  unfold chkL
  by_cases h : bare l = [] ∨ (bare l).all isDig = false ∨ ((bare l).head?.map (·.toNat) = some 48 ∧ l ≠ [48])
  · left; rw [if_pos h]
  · right
    have h1 : bare l ≠ [] := fun e => h (.inl e)
    have h2 : ∀ c ∈ bare l, isDig c = true := by
      have : (bare l).all isDig = true := by
        cases e : (bare l).all isDig with
        | true => rfl
        | false => exact absurd (.inr (.inl e)) h
      exact List.all_eq_true.1 this
    have h3 : ∀ c r, bare l = c :: r → c.toNat = 48 → l = [48] := by
      intro c r e e2
      rcases Classical.em (l = [48]) with q | q
      · exact q
      · exact absurd (.inr (.inr ⟨by rw [e]; simp [e2], q⟩)) h
    by_cases h48 : l = [48]
    · exact ⟨0, by rw [h48, itoa_zero]⟩
    have hz : ∀ c r, bare l = c :: r → r ≠ [] → c.toNat ≠ 48 := fun c r e _ e2 => h48 (h3 c r e e2)
    have hv := decDigits_dval _ h1 h2 hz
    have hne : dval (bare l) ≠ 0 := by
      intro e
      rw [e, decDigits_zero] at hv
      exact h48 (h3 48 [] hv.symm rfl)
    cases l with
    | nil => exact absurd rfl h1
    | cons c r =>
      by_cases hc : c.toNat = 45
      · have e : bare (c :: r) = r := by rw [bare_cons, if_pos hc]
        refine ⟨-(dval r : Int), ?_⟩
        rw [e] at hv hne
        rw [itoa_neg' (by omega), show (-(dval r : Int)).natAbs = dval r by omega, hv, eq_of_toNat (hc.trans toNat45.symm)]
      · have e : bare (c :: r) = c :: r := by rw [bare_cons, if_neg hc]
        rw [e] at hv
        exact ⟨(dval (c :: r) : Int), by rw [itoa_nonneg' (by omega)]; exact hv.symm⟩
theorem chkL_ok {l : List UInt8} (h : chkL l = 0) : ∃ z, l = itoa z ∧ fits z = true := by
  rcases chkL_cases l with h1 | ⟨z, rfl⟩
  · rw [h1] at h; cases h
  · refine ⟨z, rfl, ?_⟩
    rw [chkL_itoa] at h
    cases e : fits z with
    | true => rfl
    | false => rw [e] at h; simp at h
theorem chkL_vals (l : List UInt8) : chkL l = 0 ∨ chkL l = 3 ∨ chkL l = 11 := by
  unfold chkL; split
  · exact .inr (.inl rfl)
  · split
    · exact .inr (.inr rfl)
    · exact .inl rfl
end Go.Mlab
