import Derived.Test.YtdkfebfedfemaaaGreatDoorM4
import Derived.Lib.SlTrimSet
import Derived.Lib.Strings
import Derived.Lib.Atoi
set_option linter.unusedVariables false
set_option linter.unusedSimpArgs false
namespace Go.Mlab
open Go.Lib

/-! Texts. -/
def S (l : List UInt8) : ByteArray := ⟨l.toArray⟩
theorem S_toList (l : List UInt8) : (S l).data.toList = l := rfl
theorem S_size (l : List UInt8) : (S l).size = l.length := by unfold S; show l.toArray.size = _; simp
theorem S_of (s : ByteArray) : S s.data.toList = s := by unfold S; cases s; simp
theorem S_inj {a b : List UInt8} : S a = S b ↔ a = b := by
  constructor
  · intro h; have := congrArg (fun s : ByteArray => s.data.toList) h; simpa [S] using this
  · intro h; rw [h]
/-- The text of an integer. -/
def T (z : Int) : ByteArray := S (itoa z)
theorem T_inj {a b : Int} (h : T a = T b) : a = b := itoa_inj (S_inj.1 h)
theorem T_zero : T 0 = ⟨#[48]⟩ := by unfold T; rw [itoa_zero]; rfl
theorem itoa_one : itoa 1 = [49] := by rw [itoa_nonneg' (by decide)]; exact decDigits_small (by decide)
theorem T_one : T 1 = ⟨#[49]⟩ := by unfold T; rw [itoa_one]; rfl
theorem T_zero_iff {z : Int} : T z = ⟨#[48]⟩ ↔ z = 0 := by
  constructor
  · intro h; rw [← T_zero] at h; exact T_inj h
  · rintro rfl; exact T_zero
theorem T_one_iff {z : Int} : T z = ⟨#[49]⟩ ↔ z = 1 := by
  constructor
  · intro h; rw [← T_one] at h; exact T_inj h
  · rintro rfl; exact T_one
theorem T_size (z : Int) : (T z).size = (itoa z).length := S_size _
theorem T_pos (z : Int) : 0 < (T z).size := by
  rw [T_size]
  cases h : itoa z with
  | nil => exact absurd h (itoa_ne_nil z)
  | cons a r => simp
theorem itoa_len (z : Int) : (itoa z).length = (if z < 0 then 1 else 0) + nDigits z.natAbs := by
  split
  · rename_i h; rw [itoa_neg' h, List.length_cons, decDigits_length]; omega
  · rename_i h; rw [itoa_nonneg' (by omega), decDigits_length]; omega
theorem fits_len {z : Int} (h : fits z = true) : (itoa z).length ≤ 1025 := by
  rw [itoa_len]; have := fits_iff.1 h; split <;> omega

theorem hasPrefix_minus (l : List UInt8) : Lib.hasPrefix l [45] = decide (l.head?.map (·.toNat) = some 45) := by
  cases l with
  | nil => rfl
  | cons c r =>
    unfold Lib.hasPrefix
    by_cases h : c = 45
    · subst h; simp
    · have h2 : c.toNat ≠ 45 := fun e => h (eq_of_toNat (e.trans toNat45.symm))
      have h3 : ((45 : UInt8) == c) = false := by rw [beq_eq_false_iff_ne]; exact fun e => h e.symm
      show ((45 : UInt8) == c && ([] : List UInt8).isPrefixOf r) = _
      rw [h3]; simp [h2]
theorem trimPrefix_minus (l : List UInt8) : Lib.trimPrefix l [45] = bare l := by
  cases l with
  | nil => rfl
  | cons c r =>
    rw [bare_cons]
    unfold Lib.trimPrefix
    rw [hasPrefix_minus]
    by_cases h : c.toNat = 45
    · rw [if_pos h]; simp [h]
    · rw [if_neg h]; simp [h]

def digs : List UInt8 := [48, 49, 50, 51, 52, 53, 54, 55, 56, 57]
theorem digs_contains (c : UInt8) : digs.contains c = isDig c := by
  rw [Bool.eq_iff_iff, List.contains_iff_mem, isDig_iff]
  unfold digs
  simp only [List.mem_cons, List.not_mem_nil, or_false]
  constructor
  · rintro (rfl | rfl | rfl | rfl | rfl | rfl | rfl | rfl | rfl | rfl) <;> decide
  · intro h
    have key : ∀ {d : UInt8}, c.toNat = d.toNat → c = d := fun e => eq_of_toNat e
    have : c.toNat = 48 ∨ c.toNat = 49 ∨ c.toNat = 50 ∨ c.toNat = 51 ∨ c.toNat = 52 ∨ c.toNat = 53 ∨ c.toNat = 54 ∨ c.toNat = 55 ∨ c.toNat = 56 ∨ c.toNat = 57 := by omega
    rcases this with e | e | e | e | e | e | e | e | e | e
    · exact .inl (key e)
    · exact .inr (.inl (key e))
    · exact .inr (.inr (.inl (key e)))
    · exact .inr (.inr (.inr (.inl (key e))))
    · exact .inr (.inr (.inr (.inr (.inl (key e)))))
    · exact .inr (.inr (.inr (.inr (.inr (.inl (key e))))))
    · exact .inr (.inr (.inr (.inr (.inr (.inr (.inl (key e)))))))
    · exact .inr (.inr (.inr (.inr (.inr (.inr (.inr (.inl (key e))))))))
    · exact .inr (.inr (.inr (.inr (.inr (.inr (.inr (.inr (.inl (key e)))))))))
    · exact .inr (.inr (.inr (.inr (.inr (.inr (.inr (.inr (.inr (key e)))))))))
theorem dropWhile_nil_iff (p : UInt8 → Bool) (l : List UInt8) : l.dropWhile p = [] ↔ l.all p = true := by
  induction l with
  | nil => simp
  | cons c r ih =>
    rw [List.dropWhile_cons, List.all_cons]
    cases h : p c with
    | true => simpa using ih
    | false => simp
theorem trimS_nil_iff (l : List UInt8) : Lib.trimS l digs = [] ↔ l.all isDig = true := by
  have e : (fun x => digs.contains x) = isDig := funext digs_contains
  unfold Lib.trimS Lib.trimLeftS Lib.trimRightS
  rw [e, dropWhile_nil_iff]
  constructor
  · intro h
    have h1 : l.reverse.all isDig = true := by
      have h3 := List.takeWhile_append_dropWhile (p := isDig) (l := l.reverse)
      rw [← h3, List.all_append, Bool.and_eq_true]
      refine ⟨List.all_eq_true.2 (fun c hc => ?_), ?_⟩
      · exact (List.all_eq_true.1 (List.all_takeWhile (p := isDig) (l := l.reverse))) c hc
      · rw [List.all_eq_true] at h ⊢
        intro c hc
        exact h c (List.mem_reverse.2 hc)
    rw [List.all_reverse] at h1; exact h1
  · intro h
    have : l.reverse.dropWhile isDig = [] := (dropWhile_nil_iff _ _).2 (by rw [List.all_reverse]; exact h)
    rw [this]; rfl

/-! Digits read. -/
theorem decFrom_dig : ∀ (l : List UInt8) (acc : Nat), (∀ c ∈ l, isDig c = true) → decFrom acc l = some (dvalA acc l)
  | [], _, _ => rfl
  | c :: r, acc, h => by
    have h1 := isDig_iff.1 (h c List.mem_cons_self)
    unfold decFrom digitVal
    rw [if_pos h1]
    show decFrom (acc * 10 + (c.toNat - 48)) r = _
    rw [decFrom_dig r _ (fun c hc => h c (List.mem_cons_of_mem _ hc))]; rfl
theorem atoi_dig {l : List UInt8} (h0 : l ≠ []) (h : ∀ c ∈ l, isDig c = true) : atoi l = some (dval l : Int) := by
  cases l with
  | nil => exact absurd rfl h0
  | cons c r =>
    have h1 := isDig_iff.1 (h c List.mem_cons_self)
    simp only [atoi]
    have n1 : (c == 45) = false := by rw [beq_eq_false_iff_ne]; intro e; rw [e, toNat45] at h1; omega
    have n2 : (c == 43) = false := by rw [beq_eq_false_iff_ne]; intro e; rw [e] at h1; have : (43 : UInt8).toNat = 43 := rfl; omega
    rw [n1, n2]
    show (decNat (c :: r)).map _ = _
    unfold decNat
    show (decFrom 0 (c :: r)).map _ = _
    rw [decFrom_dig _ _ h]; rfl
theorem atoi_itoa (z : Int) : atoi (itoa z) = some z := by
  rcases Int.lt_or_le z 0 with h | h
  · rw [itoa_neg' h]
    unfold atoi
    show (decNat (decDigits z.natAbs)).map _ = _
    unfold decNat
    have hne := decDigits_ne_nil z.natAbs
    have : (decDigits z.natAbs).isEmpty = false := by
      cases e : decDigits z.natAbs with
      | nil => exact absurd e hne
      | cons => rfl
    rw [this]
    show (decFrom 0 (decDigits z.natAbs)).map _ = _
    rw [decFrom_dig _ _ (decDigits_dig _)]
    show some (-((dval (decDigits z.natAbs) : Nat) : Int)) = _
    rw [dval_decDigits]
    congr 1; omega
  · rw [itoa_nonneg' h, atoi_dig (decDigits_ne_nil _) (decDigits_dig _), dval_decDigits]
    congr 1; omega
end Go.Mlab
