/- The plain law of CapabilityGroups. -/
import Derived.Test.YtdkfebfedfemaaaGreatDoorL4
set_option linter.unusedVariables false
set_option linter.unusedSimpArgs false
namespace Go.Proofs.YtdkfebfedfemaaaGreatDoor
open Go.RowKit Go.Mlab

theorem sq_nonneg' (x : Int) : 0 ≤ x * x := by
  rw [← Int.natAbs_mul_self' x]
  exact Int.mul_nonneg (Int.natCast_nonneg _) (Int.natCast_nonneg _)
/-- The sum of the squares of the distances to a number. -/
def dsq (x : Int) : List Int → Int
  | [] => 0
  | y :: l => (y - x) * (y - x) + dsq x l
theorem dsq_nonneg (x : Int) : ∀ l : List Int, 0 ≤ dsq x l
  | [] => Int.le_refl _
  | y :: l => by
    have h1 := dsq_nonneg x l
    have h2 := sq_nonneg' (y - x)
    unfold dsq; omega
theorem dsq_zero (x : Int) : ∀ l : List Int, dsq x l = 0 → ∀ y ∈ l, y = x
  | [], _, _, h => by cases h
  | z :: l, h, y, hy => by
    have h1 := dsq_nonneg x l
    have h2 := sq_nonneg' (z - x)
    unfold dsq at h
    have h3 : (z - x) * (z - x) = 0 := by omega
    have h4 : dsq x l = 0 := by omega
    rcases List.mem_cons.1 hy with rfl | hy
    · rcases Int.mul_eq_zero.1 h3 with h5 | h5 <;> omega
    · exact dsq_zero x l h4 y hy
theorem dsq_same (x : Int) : ∀ l : List Int, (∀ y ∈ l, y = x) → dsq x l = 0
  | [], _ => rfl
  | z :: l, h => by
    have h1 := h z List.mem_cons_self
    subst h1
    unfold dsq
    rw [dsq_same z l (fun y hy => h y (List.mem_cons_of_mem _ hy)), Int.sub_self]
    rfl
theorem dsq_eq (x : Int) : ∀ l : List Int, dsq x l = isq l - 2 * (x * isum l) + l.length * (x * x)
  | [] => by simp [dsq, isq, isum]
  | y :: l => by
    have ih := dsq_eq x l
    have e1 : isq (y :: l) = y * y + isq l := by unfold isq; rw [List.map_cons]; simp only [isum]
    have e2 : isum (y :: l) = y + isum l := rfl
    have e3 : (((y :: l).length : Nat) : Int) = l.length + 1 := by rw [List.length_cons]; omega
    unfold dsq
    rw [ih, e1, e2, e3, Int.mul_add, Int.add_mul, Int.sub_mul, Int.mul_sub, Int.mul_sub, Int.mul_comm y x]
    generalize x * isum l = p
    generalize (l.length : Int) * (x * x) = q
    generalize x * y = r
    omega
theorem vnum_cons (x : Int) (l : List Int) : vnum (x :: l) = vnum l + dsq x l := by
  have e1 : isq (x :: l) = x * x + isq l := by unfold isq; rw [List.map_cons]; simp only [isum]
  have e2 : isum (x :: l) = x + isum l := rfl
  have e3 : (((x :: l).length : Nat) : Int) = l.length + 1 := by rw [List.length_cons]; omega
  rw [dsq_eq]
  unfold vnum
  rw [e1, e2, e3, Int.add_mul, Int.mul_add, Int.add_mul, Int.mul_add, Int.mul_add, Int.mul_add x, Int.mul_add (isum l), Int.mul_comm (isum l) x]
  generalize x * isum l = p
  generalize (l.length : Int) * (x * x) = q
  generalize (l.length : Int) * isq l = r
  generalize isum l * isum l = s
  omega
theorem vnum_nonneg : ∀ l : List Int, 0 ≤ vnum l
  | [] => by decide
  | x :: l => by rw [vnum_cons]; have := vnum_nonneg l; have := dsq_nonneg x l; omega
theorem vnum_zero (l : List Int) : vnum l = 0 ↔ ∀ y ∈ l, y = l.headD 0 := by
  cases l with
  | nil => exact ⟨fun _ y hy => (by cases hy), fun _ => (by decide)⟩
  | cons x l =>
    rw [vnum_cons]
    have h1 := vnum_nonneg l
    have h2 := dsq_nonneg x l
    constructor
    · intro h y hy
      rcases List.mem_cons.1 hy with rfl | hy
      · rfl
      · exact dsq_zero x l (by omega) y hy
    · intro h
      have h3 : ∀ y ∈ l, y = x := fun y hy => h y (List.mem_cons_of_mem _ hy)
      have h4 : dsq x l = 0 := dsq_same x l h3
      have h5 : vnum l = 0 := by
        have : ∀ m : List Int, (∀ y ∈ m, y = x) → vnum m = 0 := by
          intro m
          induction m with
          | nil => intro _; decide
          | cons z m ih =>
            intro hm
            have hz := hm z List.mem_cons_self
            subst hz
            rw [vnum_cons, ih (fun y hy => hm y (List.mem_cons_of_mem _ hy)), dsq_same z m (fun y hy => hm y (List.mem_cons_of_mem _ hy))]
            rfl
        exact this l h3
      omega
theorem wid_zero {l : List Int} (h0 : l ≠ []) : wid l = 0 ↔ ∀ y ∈ l, y = l.headD 0 := by
  have hm := headD_mem h0
  unfold wid
  constructor
  · intro h y hy
    have a1 := maxOf_ge hy
    have a2 := minOf_le hy
    have a3 := maxOf_ge hm
    have a4 := minOf_le hm
    omega
  · intro h
    have a1 := maxOf_le h0 (c := l.headD 0) (fun x hx => by rw [h x hx]; exact Int.le_refl _)
    have a2 := le_minOf h0 (c := l.headD 0) (fun x hx => by rw [h x hx]; exact Int.le_refl _)
    have a3 := min_le_max h0
    omega
theorem divInt_zero_iff {a b : Int} (hb : b ≠ 0) : Rat.divInt a b = 0 ↔ a = 0 := by
  constructor
  · intro h
    have h1 : Rat.divInt a b = Rat.divInt 0 1 := by rw [h]; rfl
    rw [Rat.divInt_eq_divInt_iff hb (by decide)] at h1
    omega
  · intro h; subst h; simp
theorem vari_zero {xs : List Int} (h : 2 ≤ xs.length) : vari xs = 0 ↔ wid xs = 0 := by
  unfold vari
  rw [divInt_zero_iff (by
    intro q
    rcases Int.mul_eq_zero.1 q with q | q <;> omega), vnum_zero, wid_zero (by intro q; rw [q] at h; simp at h)]
theorem wid_grp {xs : List Int} {g j : Nat} (hg : 0 < g) (h : (j + 1) * g ≤ xs.length) : 0 ≤ wid (grp xs g j) ∧ wid (grp xs g j) ≤ wid xs := by
  have hn : grp xs g j ≠ [] := by intro q; have := grp_len h; rw [q] at this; simp at this; omega
  have a1 := min_le_max hn
  have a2 := maxOf_le hn (fun x hx => maxOf_ge (grp_mem hx))
  have a3 := le_minOf hn (fun x hx => minOf_le (grp_mem hx))
  unfold wid
  omega
theorem right_ser {xs : List Int} (h : rightB xs = true) : serE xs = 0 := by
  obtain ⟨h1, h2, h3⟩ := rightB_iff.1 h
  unfold serE
  rw [if_neg (by intro q; rw [q] at h1; simp at h1), if_neg (by omega), if_neg]
  rw [Bool.not_eq_true, List.any_eq_false]
  intro x hx
  have := h3 x hx
  unfold outB
  rw [inB_iff.2 (by omega)]; decide
theorem right_spr {xs : List Int} (h : rightB xs = true) {k : Nat} (h1 : 2 ≤ k) (h2 : k ≤ xs.length) : sprE xs k = 0 := by
  have := (rightB_iff.1 h).2.1
  unfold sprE
  rw [right_ser h, if_neg (by decide), if_neg (by omega), if_neg (by omega)]
theorem sprL_all {xs : List Int} (h : 0 < xs.length) : sprL xs xs.length (xs.length / xs.length) = [wid xs] := by
  rw [Nat.div_self h]
  unfold sprL grp
  simp
theorem avg_one (n : Int) : avg [n] = (n : Rat) := by
  unfold avg
  have e : isum [n] = n := by simp [isum]
  rw [e]
  have h1 : (1 : Int) ≠ 0 := by decide
  have := Rat.num_divInt_den (n : Rat)
  exact this
end Go.Proofs.YtdkfebfedfemaaaGreatDoor
