import Derived.Test.YtdkfebfedfemaaaGreatDoorM6
import Derived.Lib.Bytealg
import Derived.Lib.Small
set_option linter.unusedVariables false
set_option linter.unusedSimpArgs false
namespace Go.Mlab
open Go.Lib

/-! Rational numbers' texts. -/
def notSl (c : UInt8) : Bool := c != 47
def numL (l : List UInt8) : List UInt8 := l.takeWhile notSl
def denO (l : List UInt8) : Option (List UInt8) := match l.dropWhile notSl with
  | [] => none
  | _ :: r => some r
def denL (l : List UInt8) : List UInt8 := (denO l).getD [49]
theorem notSl_47 : notSl 47 = false := rfl
theorem slash_parts (l : List UInt8) : (denO l = none ∧ numL l = l) ∨ ∃ r, denO l = some r ∧ l = numL l ++ 47 :: r := by
  unfold denO numL
  have h := List.takeWhile_append_dropWhile (p := notSl) (l := l)
  cases e : l.dropWhile notSl with
  | nil => left; rw [e, List.append_nil] at h; exact ⟨rfl, h⟩
  | cons c r =>
    right
    have hc : notSl c = false := by
      have := List.head?_dropWhile_not notSl l
      rw [e] at this; simpa using this
    have : c = 47 := by simpa [notSl] using hc
    subst this
    exact ⟨r, rfl, by rw [e] at h; exact h.symm⟩
theorem indexByte_append {l r : List UInt8} (h : ∀ c ∈ l, notSl c = true) : indexByte (l ++ 47 :: r) 47 = l.length := by
  induction l with
  | nil => rfl
  | cons c l ih =>
    have hc : (c == 47) = false := by have := h c List.mem_cons_self; simpa [notSl] using this
    have ih := ih (fun c hc => h c (List.mem_cons_of_mem _ hc))
    show (if (c == 47) = true then 0 else if indexByte (l ++ 47 :: r) 47 == -1 then -1 else indexByte (l ++ 47 :: r) 47 + 1) = _
    rw [hc, ih, List.length_cons]
    have : ((l.length : Int) == -1) = false := by rw [beq_eq_false_iff_ne]; omega
    rw [this]; simp
theorem indexByte_no {l : List UInt8} (h : ∀ c ∈ l, notSl c = true) : indexByte l 47 = -1 := by
  induction l with
  | nil => rfl
  | cons c l ih =>
    have hc : (c == 47) = false := by have := h c List.mem_cons_self; simpa [notSl] using this
    have ih := ih (fun c hc => h c (List.mem_cons_of_mem _ hc))
    show (if (c == 47) = true then 0 else if indexByte l 47 == -1 then -1 else indexByte l 47 + 1) = _
    rw [hc, ih]; rfl
theorem numL_no (l : List UInt8) : ∀ c ∈ numL l, notSl c = true := by
  intro c hc
  have := List.all_takeWhile (p := notSl) (l := l)
  exact List.all_eq_true.1 this c hc
theorem numL_append {l r : List UInt8} (h : ∀ c ∈ l, notSl c = true) : numL (l ++ 47 :: r) = l ∧ denO (l ++ 47 :: r) = some r := by
  unfold numL denO
  rw [List.takeWhile_append_of_pos h, List.dropWhile_append_of_pos h]
  simp [notSl_47]
theorem numL_plain {l : List UInt8} (h : ∀ c ∈ l, notSl c = true) : numL l = l ∧ denO l = none := by
  unfold numL denO
  have e1 : l.takeWhile notSl = l := by
    have := List.takeWhile_append_of_pos (l₁ := l) (l₂ := []) h
    simpa using this
  have e2 : l.dropWhile notSl = [] := by
    have := List.dropWhile_append_of_pos (l₁ := l) (l₂ := []) h
    simpa using this
  rw [e1, e2]; exact ⟨rfl, rfl⟩
theorem itoa_noSl (z : Int) : ∀ c ∈ itoa z, notSl c = true := by
  have hd : ∀ u, ∀ c ∈ decDigits u, notSl c = true := by
    intro u c hc
    have := isDig_iff.1 (decDigits_dig u c hc)
    have : c ≠ 47 := by intro e; rw [e] at this; have h2 : (47 : UInt8).toNat = 47 := rfl; omega
    simpa [notSl] using this
  rcases Int.lt_or_le z 0 with h | h
  · rw [itoa_neg' h]
    intro c hc
    rcases List.mem_cons.1 hc with rfl | hc
    · decide
    · exact hd _ c hc
  · rw [itoa_nonneg' h]; exact hd _
def valL (l : List UInt8) : Int := (atoi l).getD 0
theorem valL_itoa (z : Int) : valL (itoa z) = z := by unfold valL; rw [atoi_itoa]; rfl

def qtext (r : Rat) : List UInt8 := itoa r.num ++ (if r.den = 1 then [] else 47 :: itoa r.den)
def Q (r : Rat) : ByteArray := S (qtext r)
theorem qtext_one {r : Rat} (h : r.den = 1) : qtext r = itoa r.num := by unfold qtext; rw [if_pos h, List.append_nil]
theorem qtext_den {r : Rat} (h : r.den ≠ 1) : qtext r = itoa r.num ++ 47 :: itoa r.den := by unfold qtext; rw [if_neg h]
theorem numL_qtext (r : Rat) : numL (qtext r) = itoa r.num := by
  by_cases h : r.den = 1
  · rw [qtext_one h]; exact (numL_plain (itoa_noSl _)).1
  · rw [qtext_den h]; exact (numL_append (itoa_noSl _)).1
theorem denO_qtext (r : Rat) : denO (qtext r) = if r.den = 1 then none else some (itoa r.den) := by
  by_cases h : r.den = 1
  · rw [qtext_one h, if_pos h]; exact (numL_plain (itoa_noSl _)).2
  · rw [qtext_den h, if_neg h]; exact (numL_append (itoa_noSl _)).2
theorem denL_qtext (r : Rat) : denL (qtext r) = itoa r.den := by
  unfold denL
  rw [denO_qtext]
  by_cases h : r.den = 1
  · rw [if_pos h, h]; exact itoa_one.symm
  · rw [if_neg h]; rfl
theorem qtext_inj {r s : Rat} (h : qtext r = qtext s) : r = s := by
  have h1 := numL_qtext r
  have h2 := denL_qtext r
  rw [h, numL_qtext] at h1
  rw [h, denL_qtext] at h2
  have h3 := itoa_inj h1
  have h4 := itoa_inj h2
  exact Rat.ext h3.symm (by omega)
theorem Q_inj {r s : Rat} (h : Q r = Q s) : r = s := qtext_inj (S_inj.1 h)
def fitsR (r : Rat) : Bool := fits r.num && fits r.den
theorem fitsR_iff {r : Rat} : fitsR r = true ↔ fits r.num = true ∧ fits r.den = true := by unfold fitsR; rw [Bool.and_eq_true]
/-- The number of the error of a rational number's text, or 0. -/
def ratE (l : List UInt8) : Int :=
  if chkL (numL l) = 3 ∨ chkL (denL l) = 3 then 3
  else if chkL (numL l) ≠ 0 ∨ chkL (denL l) ≠ 0 then max (chkL (numL l)) (chkL (denL l))
  else if denO l = none then 0
  else if valL (denL l) ≤ 1 ∨ Nat.gcd (valL (numL l)).natAbs (valL (denL l)).natAbs ≠ 1 then 3
  else 0
theorem ratE_text {r : Rat} (h : fitsR r = true) : ratE (qtext r) = 0 := by
  have h1 := fitsR_iff.1 h
  unfold ratE
  rw [numL_qtext, denL_qtext, chkL_itoa, chkL_itoa, h1.1, h1.2]
  rw [if_neg (by simp), if_neg (by simp), denO_qtext, valL_itoa, valL_itoa]
  by_cases hd : r.den = 1
  · rw [if_pos hd, if_pos rfl]
  · rw [if_neg hd, if_neg (by simp), if_neg]
    intro hc
    rcases hc with hc | hc
    · have := r.den_nz; omega
    · apply hc
      rw [Int.natAbs_natCast]; exact r.reduced
theorem ratE_ok {l : List UInt8} (h : ratE l = 0) : ∃ r : Rat, l = qtext r ∧ fitsR r = true := by
  unfold ratE at h
  by_cases h1 : chkL (numL l) = 3 ∨ chkL (denL l) = 3
  · rw [if_pos h1] at h; cases h
  · rw [if_neg h1] at h
    by_cases h2 : chkL (numL l) ≠ 0 ∨ chkL (denL l) ≠ 0
    · rw [if_pos h2] at h
      have a := chkL_vals (numL l)
      have b := chkL_vals (denL l)
      omega
    · rw [if_neg h2] at h
      have a : chkL (numL l) = 0 := by rcases chkL_vals (numL l) with q | q | q <;> first | exact q | (exfalso; apply h2; left; rw [q]; decide)
      have b : chkL (denL l) = 0 := by rcases chkL_vals (denL l) with q | q | q <;> first | exact q | (exfalso; apply h2; right; rw [q]; decide)
      obtain ⟨z, hz, fz⟩ := chkL_ok a
      obtain ⟨d, hd, fd⟩ := chkL_ok b
      rcases slash_parts l with ⟨hn, hl⟩ | ⟨r, hr, hl⟩
      · rw [hl] at hz
        refine ⟨⟨z, 1, by decide, by simp [Nat.Coprime]⟩, by rw [qtext_one rfl]; exact hz, fitsR_iff.2 ⟨fz, ?_⟩⟩
        have : denL l = [49] := by unfold denL; rw [hn]; rfl
        rw [this, ← itoa_one] at hd
        rw [← itoa_inj hd] at fd
        exact fd
      · rw [if_neg (by rw [hr]; simp)] at h
        have hd' : denL l = r := by unfold denL; rw [hr]; rfl
        rw [hz, hd, valL_itoa, valL_itoa] at h
        by_cases h3 : d ≤ 1 ∨ Nat.gcd z.natAbs d.natAbs ≠ 1
        · rw [if_pos h3] at h; cases h
        · have h4 : ¬ d ≤ 1 := fun q => h3 (.inl q)
          have h5 : Nat.gcd z.natAbs d.natAbs = 1 := Classical.byContradiction fun q => h3 (.inr q)
          refine ⟨⟨z, d.natAbs, by omega, h5⟩, ?_, fitsR_iff.2 ⟨fz, ?_⟩⟩
          · rw [qtext_den (by show d.natAbs ≠ 1; omega), hl, hz, ← hd', hd]
            congr 2
            show itoa d = itoa ((d.natAbs : Nat) : Int)
            rw [show ((d.natAbs : Nat) : Int) = d by omega]
          · show fits ((d.natAbs : Nat) : Int) = true
            rw [show ((d.natAbs : Nat) : Int) = d by omega]; exact fd
end Go.Mlab
