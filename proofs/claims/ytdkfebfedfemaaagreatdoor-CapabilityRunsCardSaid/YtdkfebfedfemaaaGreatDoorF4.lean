/- The reference's integers: size, Below, signed, Turned. The reference's integers: less, bare, column. The reference's integers: bare. The reference's integers: column. -/
import Derived.Test.YtdkfebfedfemaaaGreatDoorC8
set_option linter.unusedVariables false
set_option linter.unusedSimpArgs false
namespace Go.Proofs.YtdkfebfedfemaaaGreatDoor
open Go.RowKit Go.Mlab

/-- The digits of a number. -/
def D (u : Nat) : ByteArray := S (Lib.decDigits u)
theorem D_pos (u : Nat) : 0 < (D u).size := by
  unfold D; rw [S_size]
  exact List.length_pos_iff.2 (decDigits_ne_nil u)
theorem T_nonneg {z : Int} (h : 0 ≤ z) : T z = D z.natAbs := by unfold T D; rw [itoa_nonneg' h]
theorem T_minus {z : Int} (h : z < 0) : T z = { data := #[45] } ++ D z.natAbs := by
  apply WideShapes.bytes_inj
  rw [Joins.data_append]
  unfold T D
  rw [S_toList, S_toList, itoa_neg' h]; rfl
theorem D_zero : D 0 = { data := #[48] } := by unfold D; rw [decDigits_zero]; rfl
theorem D_inj {u v : Nat} (h : D u = D v) : u = v := decDigits_inj (S_inj.1 h)
theorem D_is0 {u : Nat} (h : u ≠ 0) : ((D u).toList == [48]) = false := by
  rw [Lib.toList_data, beq_eq_false_iff_ne]
  intro e
  apply h
  apply decDigits_inj
  rw [decDigits_zero]; exact e
theorem nonempty_of {s : ByteArray} (h : 0 < s.size) : s.toList.isEmpty = false := by
  rw [Lib.toList_data]
  cases e : s.data.toList with
  | nil =>
    have : s.data.toList.length = 0 := by rw [e]; rfl
    rw [Array.length_toList] at this
    have h2 : s.data.size = s.size := rfl
    omega
  | cons => rfl
theorem size_calls (z : Int) (w : World) (hz : (T z).size ≤ 4611686018427387904) :
    Calls Tryz.prog 135 #[.string (T z)] w fun e w' => e = .returned (.string (D z.natAbs)) ∧ w' = w := by
  have a2 := T_pos z
  have a4 := nonempty_of a2
  by_cases h1 : z < 0
  · have a3 := T_get_neg h1 a2
    have e : D z.natAbs = (T z).extract 1 (T z).size := by
      rw [Lib.extract_eq]
      unfold T D
      rw [S_toList, itoa_neg' h1, S_size]
      show S _ = S _
      rw [S_inj]
      simp
    rw [e]
    clear e
    generalize T z = s at *
    have a5 : (1 : Int) ≤ s.size := by omega
    clear h1
    go_enter Tryz.func135, Tryz.ntmps135
    go_wp2
    go_ret
    exact ⟨rfl, rfl⟩
  · have a3 := T_get_nonneg (z := z) (by omega) a2
    rw [← T_nonneg (by omega)]
    clear h1
    generalize T z = s at *
    go_enter Tryz.func135, Tryz.ntmps135
    go_wp2
    go_ret
    exact ⟨rfl, rfl⟩
theorem below_calls (z : Int) (w : World) :
    Calls Tryz.prog 102 #[.string (T z)] w fun e w' => e = .returned (.bool (decide (z < 0))) ∧ w' = w := by
  have a2 := T_pos z
  by_cases h1 : z < 0
  · have a3 := T_get_neg h1 a2
    rw [decide_eq_true h1]
    clear h1
    generalize T z = s at *
    go_enter Tryz.func102, Tryz.ntmps102
    go_wp2
    go_ret
    exact ⟨rfl, rfl⟩
  · have a3 := T_get_nonneg (z := z) (by omega) a2
    have a4 : (((T z)[0]'a2).toNat == 45) = false := by rw [beq_eq_false_iff_ne]; exact a3
    have a5 : ((((T z)[0]'a2).toNat : Int) == 45) = false := by rw [beq_eq_false_iff_ne]; omega
    rw [decide_eq_false h1]
    clear h1
    generalize T z = s at *
    go_enter Tryz.func102, Tryz.ntmps102
    go_wp2
    go_ret
    exact ⟨rfl, rfl⟩
theorem signed_calls (u : Nat) (m : Bool) (w : World) (hz : (D u).size ≤ 4611686018427387904) :
    Calls Tryz.prog 134 #[.string (D u), .bool m] w fun e w' => e = .returned (.string (T (if m then -(u : Int) else u))) ∧ w' = w := by
  cases m with
  | false =>
    rw [if_neg (by decide), T_nonneg (by omega), Int.natAbs_natCast]
    generalize D u = s at *
    go_enter Tryz.func134, Tryz.ntmps134
    go_wp2
    go_ret
    exact ⟨rfl, rfl⟩
  | true =>
    rw [if_pos rfl]
    by_cases h0 : u = 0
    · subst h0
      rw [show -((0 : Nat) : Int) = 0 from rfl, T_zero_bytes, D_zero]
      clear hz
      go_enter Tryz.func134, Tryz.ntmps134
      go_wp2
      go_ret
      exact ⟨rfl, rfl⟩
    · have a1 := D_is0 h0
      rw [T_minus (by omega), Int.natAbs_neg, Int.natAbs_natCast]
      clear h0
      generalize D u = s at *
      have a3 : ¬ 9223372036854775807 < 1 + s.size := by omega
      go_enter Tryz.func134, Tryz.ntmps134
      go_wp2
      go_ret
      exact ⟨rfl, rfl⟩
end Go.Proofs.YtdkfebfedfemaaaGreatDoor
set_option linter.unusedVariables false
set_option linter.unusedSimpArgs false
namespace Go.Proofs.YtdkfebfedfemaaaGreatDoor
open Go.RowKit Go.Mlab

theorem bytesLess_dig : ∀ (a b : List UInt8), a.length = b.length → (∀ c ∈ a, isDig c = true) → (∀ c ∈ b, isDig c = true) → Op.bytesLess a b = decide (dval a < dval b)
  | [], [], _, _, _ => by simp [Op.bytesLess]
  | [], _ :: _, h, _, _ => by simp at h
  | _ :: _, [], h, _, _ => by simp at h
  | x :: a, y :: b, h, ha, hb => by
    have hl : a.length = b.length := by simpa using h
    have ih := bytesLess_dig a b hl (fun c hc => ha c (List.mem_cons_of_mem _ hc)) (fun c hc => hb c (List.mem_cons_of_mem _ hc))
    have hx := isDig_iff.1 (ha x List.mem_cons_self)
    have hy := isDig_iff.1 (hb y List.mem_cons_self)
    have da := dval_lt a (fun c hc => ha c (List.mem_cons_of_mem _ hc))
    have db := dval_lt b (fun c hc => hb c (List.mem_cons_of_mem _ hc))
    rw [dval_cons, dval_cons, ← hl]
    rw [← hl] at db
    unfold Op.bytesLess
    rw [ih]
    generalize 10 ^ a.length = p at *
    generalize dval a = u at *
    generalize dval b = v at *
    have e1 : x < y ↔ x.toNat < y.toNat := UInt8.lt_iff_toNat_lt
    rw [Bool.eq_iff_iff]
    simp only [Bool.or_eq_true, Bool.and_eq_true, decide_eq_true_iff, beq_iff_eq]
    rw [e1]
    constructor
    · rintro (h1 | ⟨h1, h2⟩)
      · have h3 : (x.toNat - 48 + 1) * p ≤ (y.toNat - 48) * p := Nat.mul_le_mul_right _ (by omega)
        rw [Nat.add_mul, Nat.one_mul] at h3
        omega
      · subst h1; omega
    · intro h1
      rcases Nat.lt_trichotomy x.toNat y.toNat with q | q | q
      · exact .inl q
      · right
        have := eq_of_toNat q
        subst this
        exact ⟨rfl, by omega⟩
      · exfalso
        have h3 : (y.toNat - 48 + 1) * p ≤ (x.toNat - 48) * p := Nat.mul_le_mul_right _ (by omega)
        rw [Nat.add_mul, Nat.one_mul] at h3
        omega
theorem dec_len_lt {u v : Nat} (h : Lib.nDigits u < Lib.nDigits v) : u < v := by
  have h1 := (nDigits_le (u := u) (k := Lib.nDigits u) (Lib.nDigits_pos u)).1 (Nat.le_refl _)
  rcases Nat.lt_or_ge u v with q | q
  · exact q
  · have h2 := (nDigits_le (u := v) (k := Lib.nDigits u) (Lib.nDigits_pos u)).2 (by omega)
    omega
theorem D_size (u : Nat) : (D u).size = Lib.nDigits u := by unfold D; rw [S_size, Lib.decDigits_length]
theorem less_calls (u v : Nat) (w : World) (hu : (D u).size ≤ 4611686018427387904) (hv : (D v).size ≤ 4611686018427387904) :
    Calls Tryz.prog 155 #[.string (D u), .string (D v)] w fun e w' => e = .returned (.bool (decide (u < v))) ∧ w' = w := by
  by_cases h1 : (D u).size < (D v).size
  · have h1' : ((D u).size : Int) < (D v).size := by omega
    have e : decide (u < v) = true := by rw [D_size, D_size] at h1; exact decide_eq_true (dec_len_lt h1)
    rw [e]
    clear e
    generalize D u = s at *
    generalize D v = t at *
    go_enter Tryz.func155, Tryz.ntmps155
    go_wp2
    go_ret
    exact ⟨rfl, rfl⟩
  · have h1' : ¬ ((D u).size : Int) < (D v).size := by omega
    by_cases h2 : (D u).size = (D v).size
    · have h2' : ((D u).size : Int) = (D v).size := by omega
      have e : Op.bytesLess (D u).toList (D v).toList = decide (u < v) := by
        rw [Lib.toList_data, Lib.toList_data]
        show Op.bytesLess (Lib.decDigits u) (Lib.decDigits v) = _
        rw [D_size, D_size] at h2
        rw [bytesLess_dig _ _ (by rw [Lib.decDigits_length, Lib.decDigits_length]; exact h2) (decDigits_dig u) (decDigits_dig v), dval_decDigits, dval_decDigits]
      rw [← e]
      clear e
      generalize D u = s at *
      generalize D v = t at *
      go_enter Tryz.func155, Tryz.ntmps155
      go_wp2
      go_ret
      exact ⟨rfl, rfl⟩
    · have h2' : ((D u).size : Int) ≠ (D v).size := by omega
      have e : decide (u < v) = false := by
        rw [D_size, D_size] at h1 h2
        have := dec_len_lt (u := v) (v := u) (by omega)
        exact decide_eq_false (by omega)
      rw [e]
      clear e
      generalize D u = s at *
      generalize D v = t at *
      go_enter Tryz.func155, Tryz.ntmps155
      go_wp2
      go_ret
      exact ⟨rfl, rfl⟩
end Go.Proofs.YtdkfebfedfemaaaGreatDoor
set_option linter.unusedVariables false
set_option linter.unusedSimpArgs false
namespace Go.Proofs.YtdkfebfedfemaaaGreatDoor
open Go.RowKit Go.Mlab

theorem bare_calls (ds : List UInt8) (w : World) (h0 : ds ≠ []) (hd : ∀ c ∈ ds, isDig c = true) (hl : ds.length ≤ 4611686018427387904) :
    Calls Tryz.prog 163 #[.string (S ds)] w fun e w' => e = .returned (.string (D (dval ds))) ∧ w' = w := by
  have HD := Lib.hid (And.intro hd h0)
  clear hd h0
  go_enter Tryz.func163, Tryz.ntmps163
  go_wp2
  go_loopg [0] ds.length (fun k v0 wr => ∃ i, v0 = .string (S (ds.drop i)) ∧ k + i = ds.length ∧ wr = w ∧ Hid (ds.drop i ≠ [] ∧ dval (ds.drop i) = dval ds))
  case atStart => exact ⟨0, by rw [List.drop_zero], by omega, rfl, ⟨by rw [List.drop_zero]; exact HD.out.2, by rw [List.drop_zero]⟩⟩
  case round =>
    obtain ⟨i, rfl, hi, rfl, hr⟩ := hrel
    obtain ⟨c, r, hcr⟩ : ∃ c r, ds.drop i = c :: r := by
      cases h : ds.drop i with
      | nil => exact absurd h hr.out.1
      | cons c r => exact ⟨c, r, rfl⟩
    have hsz : (S (ds.drop i)).size = r.length + 1 := by rw [S_size, hcr]; rfl
    have hpos : 0 < (S (ds.drop i)).size := by omega
    have hc : ((S (ds.drop i))[0]'hpos).toNat = c.toNat := by
      have : (S (ds.drop i))[0]'hpos = (S (ds.drop i)).data.toList[0]'(by rw [Array.length_toList]; exact hpos) := rfl
      rw [this]
      simp only [S_toList, hcr]; rfl
    have hex : (S (ds.drop i)).extract 1 (S (ds.drop i)).size = S (ds.drop (i + 1)) := by
      rw [Lib.extract_eq]
      show S _ = S _
      rw [S_inj, S_toList, List.take_of_length_le (by rw [List.length_drop, S_size]; exact Nat.le_refl _), List.drop_drop]
    have hlen : r.length + 1 + i = ds.length := by
      have := congrArg List.length hcr
      rw [List.length_drop, List.length_cons] at this
      omega
    have hdig : ∀ x ∈ c :: r, isDig x = true := by rw [← hcr]; exact fun x hx => HD.out.1 x (List.mem_of_mem_drop hx)
    have hval := hr.out.2
    rw [hcr] at hval
    by_cases hz : c.toNat = 48 ∧ r ≠ []
    · have hb : 1 < ((S (ds.drop i)).size : Int) := by
        have := List.length_pos_iff.2 hz.2
        omega
      have hb1 : (1 : Int) ≤ (S (ds.drop i)).size := by omega
      have hc48 := hc.trans hz.1
      have HN := Lib.hid (show ds.drop (i + 1) ≠ [] ∧ dval (ds.drop (i + 1)) = dval ds by
        have e : ds.drop (i + 1) = r := by rw [← List.drop_drop, hcr]; rfl
        rw [e]
        refine ⟨hz.2, ?_⟩
        rw [← hval, dval_cons, hz.1]; omega)
      have hgk : gk - 1 < gk := by omega
      have hi2 : gk - 1 + (i + 1) = ds.length := by omega
      clear hcr hsz hc hdig hval hz hlen hi hr
      generalize S (ds.drop i) = s at *
      go_wp2
      go_roundg (gk - 1)
      case measure => exact hgk
      case rel => exact ⟨i + 1, rfl, hi2, rfl, HN.out⟩
    · have hfin : S (ds.drop i) = D (dval ds) := by
        unfold D
        rw [S_inj, ← hval, hcr]
        symm
        refine decDigits_dval _ (by simp) hdig ?_
        intro c' r' e hr' h48
        injection e with e1 e2
        subst e1 e2
        exact hz ⟨h48, hr'⟩
      have HF := Lib.hid hfin
      by_cases hr0 : r = []
      · have hb : ¬ 1 < ((S (ds.drop i)).size : Int) := by rw [hsz, hr0]; simp
        clear hfin hcr hsz hc hdig hval hz hlen hi hr
        generalize S (ds.drop i) = s at *
        go_wp2
        go_ret
        exact ⟨by rw [← HF.out]; rfl, rfl⟩
      · have hb : 1 < ((S (ds.drop i)).size : Int) := by
          have := List.length_pos_iff.2 hr0
          omega
        have hc48 : ((S (ds.drop i))[0]'hpos).toNat ≠ 48 := by rw [hc]; exact fun q => hz ⟨q, hr0⟩
        have hc49 : ((((S (ds.drop i))[0]'hpos).toNat : Int) == 48) = false := by rw [beq_eq_false_iff_ne]; omega
        clear hfin hcr hsz hc hdig hval hz hlen hi hr
        generalize S (ds.drop i) = s at *
        go_wp2
        go_ret
        exact ⟨by rw [← HF.out]; rfl, rfl⟩
end Go.Proofs.YtdkfebfedfemaaaGreatDoor
set_option linter.unusedVariables false
set_option linter.unusedSimpArgs false
namespace Go.Proofs.YtdkfebfedfemaaaGreatDoor
open Go.RowKit Go.Mlab

def colN (x y c : Int) (add : Bool) : Int := if add then x + y + c else x - y - c
def colD (n : Int) : Int := if 9 < n then n - 10 else if n < 0 then n + 10 else n
def colC (n : Int) : Int := if 9 < n then 1 else if n < 0 then 1 else 0
set_option maxHeartbeats 1000000 in
theorem column_calls (x y c : Int) (add : Bool) (w : World) (hx : 0 ≤ x ∧ x ≤ 9) (hy : 0 ≤ y ∧ y ≤ 9) (hc : 0 ≤ c ∧ c ≤ 1) :
    Calls Tryz.prog 184 #[.int .u8 (48 + x), .int .u8 (48 + y), .int .i64 c, .bool add] w fun e w' =>
      e = .returned (.tuple #[.int .u8 (48 + colD (colN x y c add)), .int .i64 (colC (colN x y c add))]) ∧ w' = w := by
  have e1 : IntKind.u8.wrap x = x := Go.IntWalk.u8_in _ ⟨by omega, by omega⟩
  have e2 : IntKind.u8.wrap y = y := Go.IntWalk.u8_in _ ⟨by omega, by omega⟩
  have e3 : 48 + x - 48 = x := by omega
  have e4 : 48 + y - 48 = y := by omega
  have hn : -10 ≤ colN x y c add ∧ colN x y c add ≤ 19 := by unfold colN; split <;> omega
  cases add with
  | true =>
    have en : colN x y c true = x + y + c := rfl
    rw [en] at hn ⊢
    clear en
    unfold colD colC
    by_cases h1 : 9 < x + y + c
    · rw [if_pos h1, if_pos h1, show 48 + (x + y + c - 10) = 48 + (x + y + c) - 10 by omega]
      have e5 : IntKind.u8.wrap (48 + (x + y + c) - 10) = 48 + (x + y + c) - 10 := Go.IntWalk.u8_in _ ⟨by omega, by omega⟩
      go_enter Tryz.func184, Tryz.ntmps184
      go_wp2
      go_ret2
      exact ⟨rfl, rfl⟩
    · rw [if_neg h1, if_neg h1]
      by_cases h2 : x + y + c < 0
      · rw [if_pos h2, if_pos h2, show 48 + (x + y + c + 10) = 48 + (x + y + c) + 10 by omega]
        have e5 : IntKind.u8.wrap (48 + (x + y + c) + 10) = 48 + (x + y + c) + 10 := Go.IntWalk.u8_in _ ⟨by omega, by omega⟩
        go_enter Tryz.func184, Tryz.ntmps184
        go_wp2
        go_ret2
        exact ⟨rfl, rfl⟩
      · rw [if_neg h2, if_neg h2]
        have e5 : IntKind.u8.wrap (48 + (x + y + c)) = 48 + (x + y + c) := Go.IntWalk.u8_in _ ⟨by omega, by omega⟩
        go_enter Tryz.func184, Tryz.ntmps184
        go_wp2
        go_ret2
        exact ⟨rfl, rfl⟩
  | false =>
    have en : colN x y c false = x - y - c := rfl
    rw [en] at hn ⊢
    clear en
    unfold colD colC
    by_cases h1 : 9 < x - y - c
    · rw [if_pos h1, if_pos h1, show 48 + (x - y - c - 10) = 48 + (x - y - c) - 10 by omega]
      have e5 : IntKind.u8.wrap (48 + (x - y - c) - 10) = 48 + (x - y - c) - 10 := Go.IntWalk.u8_in _ ⟨by omega, by omega⟩
      go_enter Tryz.func184, Tryz.ntmps184
      go_wp2
      go_ret2
      exact ⟨rfl, rfl⟩
    · rw [if_neg h1, if_neg h1]
      by_cases h2 : x - y - c < 0
      · rw [if_pos h2, if_pos h2, show 48 + (x - y - c + 10) = 48 + (x - y - c) + 10 by omega]
        have e5 : IntKind.u8.wrap (48 + (x - y - c) + 10) = 48 + (x - y - c) + 10 := Go.IntWalk.u8_in _ ⟨by omega, by omega⟩
        go_enter Tryz.func184, Tryz.ntmps184
        go_wp2
        go_ret2
        exact ⟨rfl, rfl⟩
      · rw [if_neg h2, if_neg h2]
        have e5 : IntKind.u8.wrap (48 + (x - y - c)) = 48 + (x - y - c) := Go.IntWalk.u8_in _ ⟨by omega, by omega⟩
        go_enter Tryz.func184, Tryz.ntmps184
        go_wp2
        go_ret2
        exact ⟨rfl, rfl⟩
end Go.Proofs.YtdkfebfedfemaaaGreatDoor
