/- Plain facts on digits and words, for every input. -/
import Derived.Test.YtdkfebfedfemaaaGreatDoorM4
import Derived.Lib.SlTrimSet
import Derived.Lib.Strings
import Derived.Lib.Atoi
import Derived.Lib.Bytealg
import Derived.Lib.Small
set_option linter.unusedVariables false
set_option linter.unusedSimpArgs false
namespace Go.Mlab
open Go.Lib

/-! Texts. -/
def S (l : List UInt8) : ByteArray := ⟨l.toArray⟩
theorem S_toList (l : List UInt8) : (S l).data.toList = l := rfl
theorem S_size (l : List UInt8) : (S l).size = l.length := by unfold S; show l.toArray.size = _; simp
theorem S_of (s : ByteArray) : S s.data.toList = s := by unfold S; cases s; simp
theorem S_inj {a b : List UInt8} : S a = S b ↔ a = b := by
  constructor
  · intro h; have := congrArg (fun s : ByteArray => s.data.toList) h; simpa [S] using this
  · intro h; rw [h]
/-- The text of an integer. -/
def T (z : Int) : ByteArray := S (itoa z)
theorem T_inj {a b : Int} (h : T a = T b) : a = b := itoa_inj (S_inj.1 h)
theorem T_zero : T 0 = ⟨#[48]⟩ := by unfold T; rw [itoa_zero]; rfl
theorem itoa_one : itoa 1 = [49] := by rw [itoa_nonneg' (by decide)]; exact decDigits_small (by decide)
theorem T_one : T 1 = ⟨#[49]⟩ := by unfold T; rw [itoa_one]; rfl
theorem T_zero_iff {z : Int} : T z = ⟨#[48]⟩ ↔ z = 0 := by
  constructor
  · intro h; rw [← T_zero] at h; exact T_inj h
  · rintro rfl; exact T_zero
theorem T_one_iff {z : Int} : T z = ⟨#[49]⟩ ↔ z = 1 := by
  constructor
  · intro h; rw [← T_one] at h; exact T_inj h
  · rintro rfl; exact T_one
theorem T_size (z : Int) : (T z).size = (itoa z).length := S_size _
theorem T_pos (z : Int) : 0 < (T z).size := by
  rw [T_size]
  cases h : itoa z with
  | nil => exact absurd h (itoa_ne_nil z)
  | cons a r => simp
theorem itoa_len (z : Int) : (itoa z).length = (if z < 0 then 1 else 0) + nDigits z.natAbs := by
  split
  · rename_i h; rw [itoa_neg' h, List.length_cons, decDigits_length]; omega
  · rename_i h; rw [itoa_nonneg' (by omega), decDigits_length]; omega
theorem fits_len {z : Int} (h : fits z = true) : (itoa z).length ≤ 1025 := by
  rw [itoa_len]; have := fits_iff.1 h; split <;> omega

theorem hasPrefix_minus (l : List UInt8) : Lib.hasPrefix l [45] = decide (l.head?.map (·.toNat) = some 45) := by
  cases l with
  | nil => rfl
  | cons c r =>
    unfold Lib.hasPrefix
    by_cases h : c = 45
    · subst h; simp
    · have h2 : c.toNat ≠ 45 := fun e => h (eq_of_toNat (e.trans toNat45.symm))
      have h3 : ((45 : UInt8) == c) = false := by rw [beq_eq_false_iff_ne]; exact fun e => h e.symm
      show ((45 : UInt8) == c && ([] : List UInt8).isPrefixOf r) = _
      rw [h3]; simp [h2]
theorem trimPrefix_minus (l : List UInt8) : Lib.trimPrefix l [45] = bare l := by
  cases l with
  | nil => rfl
  | cons c r =>
    rw [bare_cons]
    unfold Lib.trimPrefix
    rw [hasPrefix_minus]
    by_cases h : c.toNat = 45
    · rw [if_pos h]; simp [h]
    · rw [if_neg h]; simp [h]

def digs : List UInt8 := [48, 49, 50, 51, 52, 53, 54, 55, 56, 57]
theorem digs_contains (c : UInt8) : digs.contains c = isDig c := by
  rw [Bool.eq_iff_iff, List.contains_iff_mem, isDig_iff]
  unfold digs
  simp only [List.mem_cons, List.not_mem_nil, or_false]
  constructor
  · rintro (rfl | rfl | rfl | rfl | rfl | rfl | rfl | rfl | rfl | rfl) <;> decide
  · intro h
    have key : ∀ {d : UInt8}, c.toNat = d.toNat → c = d := fun e => eq_of_toNat e
    have : c.toNat = 48 ∨ c.toNat = 49 ∨ c.toNat = 50 ∨ c.toNat = 51 ∨ c.toNat = 52 ∨ c.toNat = 53 ∨ c.toNat = 54 ∨ c.toNat = 55 ∨ c.toNat = 56 ∨ c.toNat = 57 := by omega
    rcases this with e | e | e | e | e | e | e | e | e | e
    · exact .inl (key e)
    · exact .inr (.inl (key e))
    · exact .inr (.inr (.inl (key e)))
    · exact .inr (.inr (.inr (.inl (key e))))
    · exact .inr (.inr (.inr (.inr (.inl (key e)))))
    · exact .inr (.inr (.inr (.inr (.inr (.inl (key e))))))
    · exact .inr (.inr (.inr (.inr (.inr (.inr (.inl (key e)))))))
    · exact .inr (.inr (.inr (.inr (.inr (.inr (.inr (.inl (key e))))))))
    · exact .inr (.inr (.inr (.inr (.inr (.inr (.inr (.inr (.inl (key e)))))))))
    · exact .inr (.inr (.inr (.inr (.inr (.inr (.inr (.inr (.inr (key e)))))))))
theorem dropWhile_nil_iff (p : UInt8 → Bool) (l : List UInt8) : l.dropWhile p = [] ↔ l.all p = true := by
  induction l with
  | nil => simp
  | cons c r ih =>
    rw [List.dropWhile_cons, List.all_cons]
    cases h : p c with
    | true => simpa using ih
    | false => simp
theorem trimS_nil_iff (l : List UInt8) : Lib.trimS l digs = [] ↔ l.all isDig = true := by
  have e : (fun x => digs.contains x) = isDig := funext digs_contains
  unfold Lib.trimS Lib.trimLeftS Lib.trimRightS
  rw [e, dropWhile_nil_iff]
  constructor
  · intro h
    have h1 : l.reverse.all isDig = true := by
      have h3 := List.takeWhile_append_dropWhile (p := isDig) (l := l.reverse)
      rw [← h3, List.all_append, Bool.and_eq_true]
      refine ⟨List.all_eq_true.2 (fun c hc => ?_), ?_⟩
      · exact (List.all_eq_true.1 (List.all_takeWhile (p := isDig) (l := l.reverse))) c hc
      · rw [List.all_eq_true] at h ⊢
        intro c hc
        exact h c (List.mem_reverse.2 hc)
    rw [List.all_reverse] at h1; exact h1
  · intro h
    have : l.reverse.dropWhile isDig = [] := (dropWhile_nil_iff _ _).2 (by rw [List.all_reverse]; exact h)
    rw [this]; rfl

/-! Digits read. -/
theorem decFrom_dig : ∀ (l : List UInt8) (acc : Nat), (∀ c ∈ l, isDig c = true) → decFrom acc l = some (dvalA acc l)
  | [], _, _ => rfl
  | c :: r, acc, h => by
    have h1 := isDig_iff.1 (h c List.mem_cons_self)
    unfold decFrom digitVal
    rw [if_pos h1]
    show decFrom (acc * 10 + (c.toNat - 48)) r = _
    rw [decFrom_dig r _ (fun c hc => h c (List.mem_cons_of_mem _ hc))]; rfl
theorem atoi_dig {l : List UInt8} (h0 : l ≠ []) (h : ∀ c ∈ l, isDig c = true) : atoi l = some (dval l : Int) := by
  cases l with
  | nil => exact absurd rfl h0
  | cons c r =>
    have h1 := isDig_iff.1 (h c List.mem_cons_self)
    simp only [atoi]
    have n1 : (c == 45) = false := by rw [beq_eq_false_iff_ne]; intro e; rw [e, toNat45] at h1; omega
    have n2 : (c == 43) = false := by rw [beq_eq_false_iff_ne]; intro e; rw [e] at h1; have : (43 : UInt8).toNat = 43 := rfl; omega
    rw [n1, n2]
    show (decNat (c :: r)).map _ = _
    unfold decNat
    show (decFrom 0 (c :: r)).map _ = _
    rw [decFrom_dig _ _ h]; rfl
theorem atoi_itoa (z : Int) : atoi (itoa z) = some z := by
  rcases Int.lt_or_le z 0 with h | h
  · rw [itoa_neg' h]
    unfold atoi
    show (decNat (decDigits z.natAbs)).map _ = _
    unfold decNat
    have hne := decDigits_ne_nil z.natAbs
    have : (decDigits z.natAbs).isEmpty = false := by
      cases e : decDigits z.natAbs with
      | nil => exact absurd e hne
      | cons => rfl
    rw [this]
    show (decFrom 0 (decDigits z.natAbs)).map _ = _
    rw [decFrom_dig _ _ (decDigits_dig _)]
    show some (-((dval (decDigits z.natAbs) : Nat) : Int)) = _
    rw [dval_decDigits]
    congr 1; omega
  · rw [itoa_nonneg' h, atoi_dig (decDigits_ne_nil _) (decDigits_dig _), dval_decDigits]
    congr 1; omega
end Go.Mlab
set_option linter.unusedVariables false
set_option linter.unusedSimpArgs false
namespace Go.Mlab
open Go.Lib

/-! The quotient, rounded down, and its remainder. -/
theorem fdiv_of_pos {a b q r : Int} (hb : 0 < b) (e : a = q * b + r) (h0 : 0 ≤ r) (h1 : r < b) : a.fdiv b = q := by
  rw [Int.fdiv_eq_ediv_of_nonneg _ (Int.le_of_lt hb), e, Int.mul_comm, Int.mul_add_ediv_left _ _ (by omega), Int.ediv_eq_zero_of_lt h0 h1, Int.add_zero]
theorem fdiv_uniq {a b q r : Int} (hb : b ≠ 0) (e : a = q * b + r) (h : (0 ≤ r ∧ r < b) ∨ (b < r ∧ r ≤ 0)) : q = a.fdiv b ∧ r = a - a.fdiv b * b := by
  have hq : a.fdiv b = q := by
    rcases h with h | h
    · exact fdiv_of_pos (by omega) e h.1 h.2
    · have e1 : (-a).fdiv (-b) = q := fdiv_of_pos (r := -r) (by omega) (by rw [e, Int.mul_neg]; omega) (by omega) (by omega)
      rw [← e1, Int.neg_fdiv_neg]
  rw [hq]
  exact ⟨rfl, by omega⟩
/-- From magnitudes: x = ±u, y = ±v, u = k v + s. -/
theorem parted_same {a b u v k s : Int} {p : Bool} (ha : a = if p then -u else u) (hb : b = if p then -v else v) (hv : 0 < v) (e : u = k * v + s) (h0 : 0 ≤ s) (h1 : s < v) :
    k = a.fdiv b ∧ (if p then -s else s) = a - a.fdiv b * b := by
  cases p with
  | false =>
    simp at ha hb ⊢
    subst ha hb
    exact fdiv_uniq (by omega) e (.inl ⟨h0, h1⟩)
  | true =>
    simp at ha hb ⊢
    subst ha hb
    exact fdiv_uniq (by omega) (by rw [e, Int.mul_neg]; omega) (.inr ⟨by omega, by omega⟩)
theorem parted_zero {a b u v k s : Int} {p : Bool} (ha : a = if p then -u else u) (hb : b = if p then v else -v) (hv : 0 < v) (e : u = k * v + s) (h0 : s = 0) :
    -k = a.fdiv b ∧ 0 = a - a.fdiv b * b := by
  cases p with
  | false =>
    simp at ha hb ⊢
    subst ha hb
    exact fdiv_uniq (by omega) (by rw [e, h0, Int.neg_mul_neg]) (.inr ⟨by omega, by omega⟩)
  | true =>
    simp at ha hb ⊢
    subst ha hb
    exact fdiv_uniq (by omega) (by rw [e, h0, Int.neg_mul]; omega) (.inl ⟨by omega, by omega⟩)
theorem parted_other {a b u v k s : Int} {p : Bool} (ha : a = if p then -u else u) (hb : b = if p then v else -v) (hv : 0 < v) (e : u = k * v + s) (h0 : 0 < s) (h1 : s < v) :
    -k - 1 = a.fdiv b ∧ (if p then -s else s) + b = a - a.fdiv b * b := by
  cases p with
  | false =>
    simp at ha hb ⊢
    subst ha hb
    exact fdiv_uniq (by omega) (by rw [e, Int.sub_mul, Int.neg_mul_neg]; omega) (.inr ⟨by omega, by omega⟩)
  | true =>
    simp at ha hb ⊢
    subst ha hb
    exact fdiv_uniq (by omega) (by rw [e, Int.sub_mul, Int.neg_mul]; omega) (.inl ⟨by omega, by omega⟩)
theorem fdiv_exact {a b k : Int} (hb : b ≠ 0) (e : a = k * b) : a.fdiv b = k := by
  have h := fdiv_uniq (a := a) (q := k) (r := 0) hb (by rw [e]; omega) (by omega)
  exact h.1.symm
theorem fdiv_abs (a b : Int) (hb : b ≠ 0) : (a.fdiv b).natAbs ≤ a.natAbs := by
  have key : ∀ a b : Int, 0 < b → (a.fdiv b).natAbs ≤ a.natAbs := by
    intro a b hb
    rw [Int.fdiv_eq_ediv_of_nonneg _ (Int.le_of_lt hb)]
    rcases Int.lt_or_le a 0 with h | h
    · have h1 : a ≤ a / b := by
        rw [Int.le_ediv_iff_mul_le hb]
        have : a * b ≤ a * 1 := Int.mul_le_mul_of_nonpos_left (by omega) (by omega)
        omega
      have h2 : a / b ≤ 0 := Int.le_of_lt (Int.ediv_neg_of_neg_of_pos h hb)
      omega
    · have h1 := Int.ediv_le_self b h
      have h2 := Int.ediv_nonneg h (Int.le_of_lt hb)
      omega
  rcases Int.lt_or_le b 0 with h | h
  · have := key (-a) (-b) (by omega)
    rw [Int.neg_fdiv_neg, Int.natAbs_neg] at this
    exact this
  · exact key a b (by omega)
/-- The quotient that Go reckons of short numbers, and what is left. -/
theorem tdiv_floor {a b : Int} (hb : b ≠ 0) :
    (a.tmod b ≠ 0 ∧ (decide (a.tmod b < 0) != decide (b < 0)) = true → a.tdiv b - 1 = a.fdiv b ∧ a.tmod b + b = a - a.fdiv b * b) ∧
    (¬ (a.tmod b ≠ 0 ∧ (decide (a.tmod b < 0) != decide (b < 0)) = true) → a.tdiv b = a.fdiv b ∧ a.tmod b = a - a.fdiv b * b) := by
  have e : a = a.tdiv b * b + a.tmod b := (Int.tdiv_mul_add_tmod a b).symm
  have hlt : (a.tmod b).natAbs < b.natAbs := by
    have h1 : (a.tmod b).natAbs = a.natAbs % b.natAbs := Int.natAbs_tmod a b
    rw [h1]; exact Nat.mod_lt _ (by omega)
  generalize a.tdiv b = q at *
  generalize a.tmod b = r at *
  constructor
  · rintro ⟨h1, h2⟩
    refine fdiv_uniq hb (by rw [Int.sub_mul]; omega) ?_
    by_cases g1 : r < 0 <;> by_cases g2 : b < 0
    · simp [g1, g2] at h2
    · left; omega
    · right; omega
    · simp [g1, g2] at h2
  · intro h
    refine fdiv_uniq hb e ?_
    by_cases g0 : r = 0
    · omega
    · have h2 : ¬ (decide (r < 0) != decide (b < 0)) = true := fun q => h ⟨g0, q⟩
      by_cases g1 : r < 0 <;> by_cases g2 : b < 0
      · right; omega
      · simp [g1, g2] at h2
      · simp [g1, g2] at h2
      · left; omega
end Go.Mlab
set_option linter.unusedVariables false
set_option linter.unusedSimpArgs false
namespace Go.Mlab
open Go.Lib

/-! Rational numbers' texts. -/
def notSl (c : UInt8) : Bool := c != 47
def numL (l : List UInt8) : List UInt8 := l.takeWhile notSl
def denO (l : List UInt8) : Option (List UInt8) := match l.dropWhile notSl with
  | [] => none
  | _ :: r => some r
def denL (l : List UInt8) : List UInt8 := (denO l).getD [49]
theorem notSl_47 : notSl 47 = false := rfl
theorem slash_parts (l : List UInt8) : (denO l = none ∧ numL l = l) ∨ ∃ r, denO l = some r ∧ l = numL l ++ 47 :: r := by
  unfold denO numL
  have h := List.takeWhile_append_dropWhile (p := notSl) (l := l)
  cases e : l.dropWhile notSl with
  | nil => left; rw [e, List.append_nil] at h; exact ⟨rfl, h⟩
  | cons c r =>
    right
    have hc : notSl c = false := by
      have := List.head?_dropWhile_not notSl l
      rw [e] at this; simpa using this
    have : c = 47 := by simpa [notSl] using hc
    subst this
    exact ⟨r, rfl, by rw [e] at h; exact h.symm⟩
theorem indexByte_append {l r : List UInt8} (h : ∀ c ∈ l, notSl c = true) : indexByte (l ++ 47 :: r) 47 = l.length := by
  induction l with
  | nil => rfl
  | cons c l ih =>
    have hc : (c == 47) = false := by have := h c List.mem_cons_self; simpa [notSl] using this
    have ih := ih (fun c hc => h c (List.mem_cons_of_mem _ hc))
    show (if (c == 47) = true then 0 else if indexByte (l ++ 47 :: r) 47 == -1 then -1 else indexByte (l ++ 47 :: r) 47 + 1) = _
    rw [hc, ih, List.length_cons]
    have : ((l.length : Int) == -1) = false := by rw [beq_eq_false_iff_ne]; omega
    rw [this]; simp
theorem indexByte_no {l : List UInt8} (h : ∀ c ∈ l, notSl c = true) : indexByte l 47 = -1 := by
  induction l with
  | nil => rfl
  | cons c l ih =>
    have hc : (c == 47) = false := by have := h c List.mem_cons_self; simpa [notSl] using this
    have ih := ih (fun c hc => h c (List.mem_cons_of_mem _ hc))
    show (if (c == 47) = true then 0 else if indexByte l 47 == -1 then -1 else indexByte l 47 + 1) = _
    rw [hc, ih]; rfl
theorem numL_no (l : List UInt8) : ∀ c ∈ numL l, notSl c = true := by
  intro c hc
  have := List.all_takeWhile (p := notSl) (l := l)
  exact List.all_eq_true.1 this c hc
theorem numL_append {l r : List UInt8} (h : ∀ c ∈ l, notSl c = true) : numL (l ++ 47 :: r) = l ∧ denO (l ++ 47 :: r) = some r := by
  unfold numL denO
  rw [List.takeWhile_append_of_pos h, List.dropWhile_append_of_pos h]
  simp [notSl_47]
theorem numL_plain {l : List UInt8} (h : ∀ c ∈ l, notSl c = true) : numL l = l ∧ denO l = none := by
  unfold numL denO
  have e1 : l.takeWhile notSl = l := by
    have := List.takeWhile_append_of_pos (l₁ := l) (l₂ := []) h
    simpa using this
  have e2 : l.dropWhile notSl = [] := by
    have := List.dropWhile_append_of_pos (l₁ := l) (l₂ := []) h
    simpa using this
  rw [e1, e2]; exact ⟨rfl, rfl⟩
theorem itoa_noSl (z : Int) : ∀ c ∈ itoa z, notSl c = true := by
  have hd : ∀ u, ∀ c ∈ decDigits u, notSl c = true := by
    intro u c hc
    have := isDig_iff.1 (decDigits_dig u c hc)
    have : c ≠ 47 := by intro e; rw [e] at this; have h2 : (47 : UInt8).toNat = 47 := rfl; omega
    simpa [notSl] using this
  rcases Int.lt_or_le z 0 with h | h
  · rw [itoa_neg' h]
    intro c hc
    rcases List.mem_cons.1 hc with rfl | hc
    · decide
    · exact hd _ c hc
  · rw [itoa_nonneg' h]; exact hd _
def valL (l : List UInt8) : Int := (atoi l).getD 0
theorem valL_itoa (z : Int) : valL (itoa z) = z := by unfold valL; rw [atoi_itoa]; rfl

def qtext (r : Rat) : List UInt8 := itoa r.num ++ (if r.den = 1 then [] else 47 :: itoa r.den)
def Q (r : Rat) : ByteArray := S (qtext r)
theorem qtext_one {r : Rat} (h : r.den = 1) : qtext r = itoa r.num := by unfold qtext; rw [if_pos h, List.append_nil]
theorem qtext_den {r : Rat} (h : r.den ≠ 1) : qtext r = itoa r.num ++ 47 :: itoa r.den := by unfold qtext; rw [if_neg h]
theorem numL_qtext (r : Rat) : numL (qtext r) = itoa r.num := by
  by_cases h : r.den = 1
  · rw [qtext_one h]; exact (numL_plain (itoa_noSl _)).1
  · rw [qtext_den h]; exact (numL_append (itoa_noSl _)).1
theorem denO_qtext (r : Rat) : denO (qtext r) = if r.den = 1 then none else some (itoa r.den) := by
  by_cases h : r.den = 1
  · rw [qtext_one h, if_pos h]; exact (numL_plain (itoa_noSl _)).2
  · rw [qtext_den h, if_neg h]; exact (numL_append (itoa_noSl _)).2
theorem denL_qtext (r : Rat) : denL (qtext r) = itoa r.den := by
  unfold denL
  rw [denO_qtext]
  by_cases h : r.den = 1
  · rw [if_pos h, h]; exact itoa_one.symm
  · rw [if_neg h]; rfl
theorem qtext_inj {r s : Rat} (h : qtext r = qtext s) : r = s := by
  have h1 := numL_qtext r
  have h2 := denL_qtext r
  rw [h, numL_qtext] at h1
  rw [h, denL_qtext] at h2
  have h3 := itoa_inj h1
  have h4 := itoa_inj h2
  exact Rat.ext h3.symm (by omega)
theorem Q_inj {r s : Rat} (h : Q r = Q s) : r = s := qtext_inj (S_inj.1 h)
def fitsR (r : Rat) : Bool := fits r.num && fits r.den
theorem fitsR_iff {r : Rat} : fitsR r = true ↔ fits r.num = true ∧ fits r.den = true := by unfold fitsR; rw [Bool.and_eq_true]
/-- The number of the error of a rational number's text, or 0. -/
def ratE (l : List UInt8) : Int :=
  if chkL (numL l) = 3 ∨ chkL (denL l) = 3 then 3
  else if chkL (numL l) ≠ 0 ∨ chkL (denL l) ≠ 0 then max (chkL (numL l)) (chkL (denL l))
  else if denO l = none then 0
  else if valL (denL l) ≤ 1 ∨ Nat.gcd (valL (numL l)).natAbs (valL (denL l)).natAbs ≠ 1 then 3
  else 0
theorem ratE_text {r : Rat} (h : fitsR r = true) : ratE (qtext r) = 0 := by
  have h1 := fitsR_iff.1 h
  unfold ratE
  rw [numL_qtext, denL_qtext, chkL_itoa, chkL_itoa, h1.1, h1.2]
  rw [if_neg (by simp), if_neg (by simp), denO_qtext, valL_itoa, valL_itoa]
  by_cases hd : r.den = 1
  · rw [if_pos hd, if_pos rfl]
  · rw [if_neg hd, if_neg (by simp), if_neg]
    intro hc
    rcases hc with hc | hc
    · have := r.den_nz; omega
    · apply hc
      rw [Int.natAbs_natCast]; exact r.reduced
theorem ratE_ok {l : List UInt8} (h : ratE l = 0) : ∃ r : Rat, l = qtext r ∧ fitsR r = true := by
  unfold ratE at h
  by_cases h1 : chkL (numL l) = 3 ∨ chkL (denL l) = 3
  · rw [if_pos h1] at h; cases h
  · rw [if_neg h1] at h
    by_cases h2 : chkL (numL l) ≠ 0 ∨ chkL (denL l) ≠ 0
    · rw [if_pos h2] at h
      have a := chkL_vals (numL l)
      have b := chkL_vals (denL l)
      omega
    · rw [if_neg h2] at h
      have a : chkL (numL l) = 0 := by rcases chkL_vals (numL l) with q | q | q <;> first | exact q | (exfalso; apply h2; left; rw [q]; decide)
      have b : chkL (denL l) = 0 := by rcases chkL_vals (denL l) with q | q | q <;> first | exact q | (exfalso; apply h2; right; rw [q]; decide)
      obtain ⟨z, hz, fz⟩ := chkL_ok a
      obtain ⟨d, hd, fd⟩ := chkL_ok b
      rcases slash_parts l with ⟨hn, hl⟩ | ⟨r, hr, hl⟩
      · rw [hl] at hz
        refine ⟨⟨z, 1, by decide, by simp [Nat.Coprime]⟩, by rw [qtext_one rfl]; exact hz, fitsR_iff.2 ⟨fz, ?_⟩⟩
        have : denL l = [49] := by unfold denL; rw [hn]; rfl
        rw [this, ← itoa_one] at hd
        rw [← itoa_inj hd] at fd
        exact fd
      · rw [if_neg (by rw [hr]; simp)] at h
        have hd' : denL l = r := by unfold denL; rw [hr]; rfl
        rw [hz, hd, valL_itoa, valL_itoa] at h
        by_cases h3 : d ≤ 1 ∨ Nat.gcd z.natAbs d.natAbs ≠ 1
        · rw [if_pos h3] at h; cases h
        · have h4 : ¬ d ≤ 1 := fun q => h3 (.inl q)
          have h5 : Nat.gcd z.natAbs d.natAbs = 1 := Classical.byContradiction fun q => h3 (.inr q)
          refine ⟨⟨z, d.natAbs, by omega, h5⟩, ?_, fitsR_iff.2 ⟨fz, ?_⟩⟩
          · rw [qtext_den (by show d.natAbs ≠ 1; omega), hl, hz, ← hd', hd]
            congr 2
            show itoa d = itoa ((d.natAbs : Nat) : Int)
            rw [show ((d.natAbs : Nat) : Int) = d by omega]
          · show fits ((d.natAbs : Nat) : Int) = true
            rw [show ((d.natAbs : Nat) : Int) = d by omega]; exact fd
end Go.Mlab
