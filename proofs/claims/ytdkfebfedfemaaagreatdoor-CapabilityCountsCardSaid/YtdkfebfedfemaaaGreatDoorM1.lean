import Derived.Lib.ItoaNum
import Derived.Lib.AtoiAll
namespace Go.Mlab
open Go.Lib

/-- A decimal digit. -/
def isDig (c : UInt8) : Bool := decide (48 ≤ c.toNat) && decide (c.toNat ≤ 57)
theorem isDig_iff {c : UInt8} : isDig c = true ↔ 48 ≤ c.toNat ∧ c.toNat ≤ 57 := by unfold isDig; simp
/-- What digits spell, behind what went before. -/
def dvalA (a : Nat) (l : List UInt8) : Nat := l.foldl (fun a c => a * 10 + (c.toNat - 48)) a
def dval (l : List UInt8) : Nat := dvalA 0 l
theorem dvalA_nil (a : Nat) : dvalA a [] = a := rfl
theorem dvalA_cons (a : Nat) (c : UInt8) (l : List UInt8) : dvalA a (c :: l) = dvalA (a * 10 + (c.toNat - 48)) l := by unfold dvalA; rw [List.foldl_cons]
theorem dvalA_append (a : Nat) (l m : List UInt8) : dvalA a (l ++ m) = dvalA (dvalA a l) m := by unfold dvalA; rw [List.foldl_append]
theorem dvalA_eq (l : List UInt8) : ∀ a, dvalA a l = a * 10 ^ l.length + dvalA 0 l := by
  induction l with
  | nil => intro a; rw [dvalA_nil, dvalA_nil, List.length_nil, Nat.pow_zero, Nat.mul_one, Nat.add_zero]
  | cons c l ih =>
    intro a
    have h1 := ih (a * 10 + (c.toNat - 48))
    have h2 := ih (0 * 10 + (c.toNat - 48))
    rw [dvalA_cons a, dvalA_cons 0, h1, h2, List.length_cons, Nat.pow_succ]
    generalize 10 ^ l.length = p
    generalize c.toNat - 48 = d
    generalize dvalA 0 l = v
    rw [Nat.zero_mul, Nat.zero_add, Nat.add_mul, Nat.mul_assoc, Nat.mul_comm 10 p, Nat.add_assoc]
theorem dval_append (l m : List UInt8) : dval (l ++ m) = dval l * 10 ^ m.length + dval m := by
  unfold dval; rw [dvalA_append, dvalA_eq m]
theorem dval_snoc (l : List UInt8) (c : UInt8) : dval (l ++ [c]) = dval l * 10 + (c.toNat - 48) := by
  unfold dval; rw [dvalA_append]; rfl
theorem dval_cons (c : UInt8) (l : List UInt8) : dval (c :: l) = (c.toNat - 48) * 10 ^ l.length + dval l := by
  have := dval_append [c] l
  simpa [dval, dvalA] using this
theorem dval_lt (l : List UInt8) (h : ∀ c ∈ l, isDig c = true) : dval l < 10 ^ l.length := by
  induction l with
  | nil => simp [dval, dvalA]
  | cons c l ih =>
    rw [dval_cons, List.length_cons, Nat.pow_succ]
    have h1 := ih (fun c hc => h c (List.mem_cons_of_mem _ hc))
    have h2 := isDig_iff.1 (h c List.mem_cons_self)
    have h3 : (c.toNat - 48) * 10 ^ l.length ≤ 9 * 10 ^ l.length := Nat.mul_le_mul_right _ (by omega)
    omega

theorem toNat_ofNat48 {d : Nat} (h : d < 10) : (UInt8.ofNat (48 + d)).toNat = 48 + d := by
  rw [UInt8.toNat_ofNat']; omega
theorem isDig_ofNat {d : Nat} (h : d < 10) : isDig (UInt8.ofNat (48 + d)) = true := by
  rw [isDig_iff, toNat_ofNat48 h]; omega
theorem ofNat_of_dig {c : UInt8} (h : isDig c = true) : UInt8.ofNat (48 + (c.toNat - 48)) = c := by
  have := isDig_iff.1 h
  rw [show 48 + (c.toNat - 48) = c.toNat by omega]
  simp

theorem decDigits_small {u : Nat} (h : u < 10) : decDigits u = [UInt8.ofNat (48 + u)] := by rw [decDigits, dif_pos h]
theorem decDigits_big {u : Nat} (h : ¬ u < 10) : decDigits u = decDigits (u / 10) ++ [UInt8.ofNat (48 + u % 10)] := by rw [decDigits, dif_neg h]
theorem decDigits_dig (u : Nat) : ∀ c ∈ decDigits u, isDig c = true := by
  induction u using Nat.strongRecOn with
  | _ u ih =>
    by_cases h : u < 10
    · rw [decDigits_small h]; intro c hc; rw [List.mem_singleton.1 hc]; exact isDig_ofNat h
    · rw [decDigits_big h]
      intro c hc
      rcases List.mem_append.1 hc with hc | hc
      · exact ih _ (by omega) c hc
      · rw [List.mem_singleton.1 hc]; exact isDig_ofNat (by omega)
theorem dval_decDigits (u : Nat) : dval (decDigits u) = u := by
  induction u using Nat.strongRecOn with
  | _ u ih =>
    by_cases h : u < 10
    · rw [decDigits_small h]; simp only [dval, dvalA, List.foldl]; rw [toNat_ofNat48 h]; omega
    · rw [decDigits_big h, dval_snoc, ih _ (by omega), toNat_ofNat48 (by omega)]; omega
theorem decDigits_ne_nil (u : Nat) : decDigits u ≠ [] := by
  have := nDigits_pos u
  intro h
  have h2 := decDigits_length u
  rw [h] at h2; simp at h2; omega
theorem decDigits_zero : decDigits 0 = [48] := by rw [decDigits_small (by decide)]; rfl
theorem decDigits_head (u : Nat) (h : u ≠ 0) : ∃ c r, decDigits u = c :: r ∧ isDig c = true ∧ c.toNat ≠ 48 := by
  induction u using Nat.strongRecOn with
  | _ u ih =>
    by_cases h' : u < 10
    · rw [decDigits_small h']; exact ⟨_, _, rfl, isDig_ofNat h', by rw [toNat_ofNat48 h']; omega⟩
    · rw [decDigits_big h']
      obtain ⟨c, r, e, hc, hn⟩ := ih (u / 10) (by omega) (by omega)
      rw [e]
      exact ⟨c, _, rfl, hc, hn⟩
/-- Digits without zeros in front are the numeral of what they spell. -/
theorem decDigits_dval_aux : ∀ (n : Nat) (l : List UInt8), l.length = n → l ≠ [] → (∀ c ∈ l, isDig c = true) → (∀ c r, l = c :: r → r ≠ [] → c.toNat ≠ 48) → decDigits (dval l) = l := by
  intro n
  induction n with
  | zero => intro l hl h0; exact absurd (List.eq_nil_of_length_eq_zero hl) h0
  | succ n ih =>
    intro l hl h0 hd hz
    have hs := List.dropLast_concat_getLast h0
    by_cases h1 : l.dropLast = []
    · rw [h1, List.nil_append] at hs
      rw [← hs]
      have hx := hd _ (List.getLast_mem h0)
      have hx2 := isDig_iff.1 hx
      have : dval [l.getLast h0] = (l.getLast h0).toNat - 48 := by simp [dval, dvalA]
      rw [this, decDigits_small (by omega), ofNat_of_dig hx]
    · have hx := hd _ (List.getLast_mem h0)
      have hx2 := isDig_iff.1 hx
      have ih' := ih l.dropLast (by simp [hl]) h1 (fun c hc => hd c ((List.dropLast_subset _ hc))) (by
        intro c r e hr
        obtain ⟨y, t⟩ : ∃ y, l = c :: y := by
          rw [e] at hs; exact ⟨_, hs.symm⟩
        exact hz c _ t (by
          intro hy; subst hy; rw [t] at e; simp at e))
      rw [← hs, dval_snoc]
      have hpos : dval l.dropLast ≠ 0 := by
        intro h
        rw [h, decDigits_zero] at ih'
        have e : l = 48 :: [l.getLast h0] := by rw [← ih'] at hs; exact hs.symm
        exact hz 48 _ e (by simp) rfl
      rw [decDigits_big (by omega)]
      rw [show (dval l.dropLast * 10 + ((l.getLast h0).toNat - 48)) / 10 = dval l.dropLast by omega, ih']
      rw [show (dval l.dropLast * 10 + ((l.getLast h0).toNat - 48)) % 10 = (l.getLast h0).toNat - 48 by omega, ofNat_of_dig hx]
theorem decDigits_dval (l : List UInt8) (h0 : l ≠ []) (hd : ∀ c ∈ l, isDig c = true) (hz : ∀ c r, l = c :: r → r ≠ [] → c.toNat ≠ 48) : decDigits (dval l) = l :=
  decDigits_dval_aux _ l rfl h0 hd hz
theorem decDigits_inj {u v : Nat} (h : decDigits u = decDigits v) : u = v := by
  rw [← dval_decDigits u, ← dval_decDigits v, h]
theorem nDigits_le {u k : Nat} (hk : 1 ≤ k) : nDigits u ≤ k ↔ u < 10 ^ k := by
  constructor
  · intro h; exact Nat.lt_of_lt_of_le (lt_pow_nDigits u) (Nat.pow_le_pow_right (by decide) h)
  · intro h
    by_cases h0 : u = 0
    · subst h0; rw [nDigits_small (by decide)]; exact hk
    · rcases Nat.lt_or_ge k (nDigits u) with h1 | h1
      · exfalso
        have h2 : ∃ m, nDigits u = m + 1 := ⟨nDigits u - 1, by have := nDigits_pos u; omega⟩
        obtain ⟨m, hm⟩ := h2
        obtain ⟨c, r, e, hc, hn⟩ := decDigits_head u h0
        have hl := decDigits_length u
        have hv := dval_decDigits u
        rw [e, List.length_cons] at hl
        rw [e, dval_cons] at hv
        have := isDig_iff.1 hc
        have hp : 10 ^ k ≤ 10 ^ r.length := Nat.pow_le_pow_right (by decide) (by omega)
        have hq : 1 * 10 ^ r.length ≤ (c.toNat - 48) * 10 ^ r.length := Nat.mul_le_mul_right _ (by omega)
        omega
      · exact h1
end Go.Mlab
