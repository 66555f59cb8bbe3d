/- Rational numbers' texts: cut, joined, Check, checks. -/
import Derived.Test.YtdkfebfedfemaaaGreatDoorC8
import Derived.Test.YtdkfebfedfemaaaGreatDoorM7
set_option linter.unusedVariables false
set_option linter.unusedSimpArgs false
namespace Go.Proofs.YtdkfebfedfemaaaGreatDoor
open Go.RowKit Go.Mlab

def cutV (l : List UInt8) : Value := .tuple #[.string (S (numL l)), .string (S ((denO l).getD [])), .bool (denO l).isSome]
theorem cut_parts {s : ByteArray} {u r : List UInt8} (h : s.data.toList = u ++ 47 :: r) : s.extract 0 u.length = S u ∧ s.extract (u.length + 1) s.size = S r := by
  constructor
  · rw [Lib.extract_eq]; show S _ = S _
    rw [S_inj, List.drop_zero, Nat.sub_zero, h]
    exact List.take_left
  · rw [Lib.extract_eq]; show S _ = S _
    rw [S_inj, List.take_of_length_le (by rw [List.length_drop, Array.length_toList]; exact Nat.le_refl _), h]
    have e3 : u ++ 47 :: r = (u ++ [47]) ++ r := by simp
    rw [e3, show u.length + 1 = (u ++ [47]).length by simp]
    exact List.drop_left
theorem sl_cut_calls (s : ByteArray) (w : World) (hs : s.size ≤ 4611686018427387904) :
    Calls Tryz.prog 139 #[.string s, .string { data := #[47] }] w fun e w' => e = .returned (cutV s.data.toList) ∧ ∃ n, w' = w.drewN n := by
  have HI := Lib.hid (stringslite_Index_one s 47 w)
  unfold cutV
  rcases slash_parts s.data.toList with ⟨h1, h2⟩ | ⟨r, h1, h2⟩
  · have e : Lib.indexByte s.data.toList 47 = -1 := by rw [← h2]; exact indexByte_no (numL_no _)
    rw [e] at HI
    rw [h1, h2, S_of]
    clear h1 h2 e
    go_enter Tryz.func139, Tryz.ntmps139
    go_wp2_with (go_at_call 166; refine (HI.out).mono ?_; rintro e w1 ⟨rfl, rfl⟩)
    go_ret3
    exact ⟨rfl, 0, rfl⟩
  · have e : Lib.indexByte s.data.toList 47 = (numL s.data.toList).length := by rw [h2]; rw [(numL_append (numL_no _)).1]; exact indexByte_append (numL_no _)
    rw [e] at HI
    have hl : s.size = (numL s.data.toList).length + 1 + r.length := by
      have h3 := congrArg List.length h2
      rw [Array.length_toList, List.length_append, List.length_cons] at h3
      show s.data.size = _
      omega
    obtain ⟨x1, x2⟩ := cut_parts h2
    rw [h1]
    generalize numL s.data.toList = u at *
    obtain ⟨k, hk⟩ : ∃ k, u.length = k := ⟨_, rfl⟩
    rw [hk] at HI x1 x2 hl
    have b1 : (k : Int) ≤ s.size := by omega
    have b2 : (k : Int) + 1 ≤ s.size := by omega
    have b3 : k ≤ s.size := by omega
    have b4 : k + 1 ≤ s.size := by omega
    have b5 : (k : Int) + 1 ≤ 9223372036854775807 := by omega
    clear h1 h2 e hk hl
    go_enter Tryz.func139, Tryz.ntmps139
    go_wp2_with (go_at_call 166; refine (HI.out).mono ?_; rintro e w1 ⟨rfl, rfl⟩)
    go_quiet (fail)
    go_wp2
    go_ret3
    exact ⟨rfl, nq, rfl⟩
theorem strings_cut_calls (s : ByteArray) (w : World) (hs : s.size ≤ 4611686018427387904) :
    Calls Tryz.prog 105 #[.string s, .string { data := #[47] }] w fun e w' => e = .returned (cutV s.data.toList) ∧ ∃ n, w' = w.drewN n := by
  have HI := Lib.hid (sl_cut_calls s w hs)
  clear hs
  unfold cutV at HI ⊢
  generalize S (numL s.data.toList) = a at *
  generalize S ((denO s.data.toList).getD []) = b at *
  generalize (denO s.data.toList).isSome = c at *
  go_enter Tryz.func105, Tryz.ntmps105
  go_wp2_with (go_at_call 139; refine (HI.out).mono ?_; rintro e w1 ⟨rfl, n, rfl⟩)
  go_ret3
  exact ⟨rfl, n, rfl⟩
/-- What ratio's cut answers. -/
def cutW (l : List UInt8) : Value := .tuple #[.string (S (numL l)), .string (S (denL l)), .bool (denO l).isSome]
theorem cut_calls (s : ByteArray) (w : World) (hs : s.size ≤ 4611686018427387904) :
    Calls Tryz.prog 72 #[.string s] w fun e w' => e = .returned (cutW s.data.toList) ∧ ∃ n, w' = w.drewN n := by
  have HI := Lib.hid (strings_cut_calls s w hs)
  clear hs
  unfold cutV at HI
  unfold cutW denL
  cases hd : denO s.data.toList with
  | none =>
    rw [hd] at HI
    clear hd
    generalize S (numL s.data.toList) = a at *
    go_enter Tryz.func72, Tryz.ntmps72
    go_wp2_with (go_at_call 105; refine (HI.out).mono ?_; rintro e w1 ⟨rfl, n, rfl⟩)
    go_ret3
    exact ⟨rfl, n, rfl⟩
  | some r =>
    rw [hd] at HI
    clear hd
    generalize S (numL s.data.toList) = a at *
    replace HI : Hid (Calls Tryz.prog 105 #[.string s, .string { data := #[47] }] w fun e w' => e = .returned (.tuple #[.string a, .string (S r), .bool true]) ∧ ∃ n, w' = w.drewN n) := HI
    show Calls _ _ _ _ fun e w' => e = .returned (.tuple #[.string a, .string (S r), .bool true]) ∧ ∃ n, w' = w.drewN n
    generalize S r = b at *
    go_enter Tryz.func72, Tryz.ntmps72
    go_wp2_with (go_at_call 105; refine (HI.out).mono ?_; rintro e w1 ⟨rfl, n, rfl⟩)
    go_ret3
    exact ⟨rfl, n, rfl⟩
theorem joined_calls (r : Rat) (w : World) (hr : fitsR r = true) :
    Calls Tryz.prog 152 #[.string (T r.num), .string (T r.den)] w fun e w' => e = .returned (.string (Q r)) ∧ w' = w := by
  by_cases h : r.den = 1
  · have e : Q r = T r.num := by unfold Q T; rw [qtext_one h]
    rw [e, h]
    rw [show T ((1 : Nat) : Int) = { data := #[49] } from T_one]
    clear h e
    generalize T r.num = s at *
    go_enter Tryz.func152, Tryz.ntmps152
    go_wp2
    go_ret
    exact ⟨rfl, rfl⟩
  · have hz := T_is1 (z := (r.den : Int)) (by omega)
    have s1 := fits_size (fitsR_iff.1 hr).1
    have s2 := fits_size (fitsR_iff.1 hr).2
    have e : Q r = T r.num ++ { data := #[47] } ++ T r.den := by
      apply WideShapes.bytes_inj
      rw [Joins.data_append, Joins.data_append]
      unfold Q T
      rw [S_toList, S_toList, S_toList, qtext_den h]; simp
    rw [e]
    clear h e hr
    generalize T r.num = s at *
    generalize T (r.den : Int) = t at *
    have s3 : ¬ 9223372036854775807 < s.size + 1 := by omega
    have s4 : ¬ 9223372036854775807 < s.size + 1 + t.size := by omega
    go_enter Tryz.func152, Tryz.ntmps152
    go_wp2
    go_ret
    exact ⟨rfl, rfl⟩

theorem numL_len (l : List UInt8) : (numL l).length ≤ l.length := by unfold numL; exact (List.takeWhile_sublist _).length_le
theorem denL_len (l : List UInt8) : (denL l).length ≤ l.length + 1 := by
  unfold denL
  rcases slash_parts l with ⟨h, _⟩ | ⟨r, h, e⟩
  · rw [h]; show 1 ≤ _; omega
  · rw [h]
    have := congrArg List.length e
    rw [List.length_append, List.length_cons] at this
    show r.length ≤ _; omega
theorem ratE_both {l : List UInt8} {z d : Int} (ez : numL l = Lib.itoa z) (ed : denL l = Lib.itoa d) (fz : fits z = true) (fd : fits d = true) {g : Nat} (hg : Nat.gcd z.natAbs d.natAbs = g) :
    ratE l = if denO l = none then 0 else if d ≤ 1 ∨ g ≠ 1 then 3 else 0 := by
  subst hg
  unfold ratE
  rw [ez, ed, chkL_itoa, chkL_itoa, fz, fd, valL_itoa, valL_itoa]
  rw [if_neg (by simp), if_neg (by simp)]
theorem ratE_three {l : List UInt8} (h : chkL (numL l) = 3 ∨ chkL (denL l) = 3) : ratE l = 3 := by unfold ratE; rw [if_pos h]
theorem ratE_max {l : List UInt8} (h : ¬ (chkL (numL l) = 3 ∨ chkL (denL l) = 3)) (h2 : chkL (numL l) ≠ 0 ∨ chkL (denL l) ≠ 0) : ratE l = max (chkL (numL l)) (chkL (denL l)) := by unfold ratE; rw [if_neg h, if_pos h2]
set_option maxHeartbeats 2000000 in
theorem rat_check_calls (s : ByteArray) (w : World) (hs : s.size ≤ 4611686018427387904) (ht : Tab w) :
    Calls Tryz.prog 104 #[.string s] w fun e w' => e = .returned (.int .i64 (ratE s.data.toList)) ∧ Below w.heap.size w w' := by
  have HC := Lib.hid (cut_calls s w hs)
  have HT := Lib.hid ht
  clear ht
  unfold cutW at HC
  have hl : s.data.toList.length = s.size := by rw [Array.length_toList]; rfl
  have ln := numL_len s.data.toList
  have ld := denL_len s.data.toList
  have HN := Lib.hid (fun w => check_calls (S (numL s.data.toList)) (by rw [S_size]; omega) w)
  have HD := Lib.hid (fun w => check_calls (S (denL s.data.toList)) (by rw [S_size]; omega) w)
  rw [S_toList] at HN HD
  have vn := chkL_vals (numL s.data.toList)
  have vd := chkL_vals (denL s.data.toList)
  have gn : chkL (numL s.data.toList) = 0 → ∃ z, numL s.data.toList = Lib.itoa z ∧ fits z = true := chkL_ok
  have gd : chkL (denL s.data.toList) = 0 → ∃ z, denL s.data.toList = Lib.itoa z ∧ fits z = true := chkL_ok
  clear ln ld hl hs
  by_cases h0 : chkL (numL s.data.toList) = 0 ∧ chkL (denL s.data.toList) = 0
  · obtain ⟨z, ez, fz⟩ := gn h0.1
    obtain ⟨d, ed, fd⟩ := gd h0.2
    rw [h0.1] at HN
    rw [h0.2] at HD
    obtain ⟨g, hg⟩ : ∃ g, Nat.gcd z.natAbs d.natAbs = g := ⟨_, rfl⟩
    rw [ratE_both ez ed fz fd hg]
    have f1 : fits 1 = true := fits_1
    have HCmp := Lib.hid (fun w => compare_calls d 1 w fd f1)
    have HG := Lib.hid (fun w h => gcd_calls z d w fz fd h)
    rw [ez, ed] at HC
    rw [ez] at HN
    rw [ed] at HD
    rw [show S (Lib.itoa z) = T z from rfl] at HC HN
    rw [show S (Lib.itoa d) = T d from rfl] at HC HD
    rw [show T 1 = { data := #[49] } from T_one] at HCmp
    have hcm : Lib.compareInt d 1 ≤ 0 ↔ d ≤ 1 := by
      unfold Lib.compareInt
      constructor
      · intro h; split at h
        · omega
        · split at h <;> omega
      · intro h; split
        · decide
        · rw [if_neg (by omega)]; decide
    rw [hg] at HG
    have hgt := T_is1 (z := (g : Int))
    have hgt1 : g = 1 → T (g : Int) = { data := #[49] } := by intro h; rw [h]; exact T_one
    clear hg
    generalize Lib.compareInt d 1 = cm at *
    clear gn gd vn vd h0 ez ed fz fd f1
    generalize T z = zs at *
    generalize T d = ds at *
    cases hd : denO s.data.toList with
    | none =>
      rw [hd] at HC
      clear hd
      rw [if_pos rfl]
      go_enter Tryz.func104, Tryz.ntmps104
      go_wp2_with (go_at_call 72; refine (HC.out).mono ?_; rintro e w1 ⟨rfl, n, rfl⟩)
      go_wp2_with (go_at_call 114; fail)
      refine (HN.out _).mono ?_
      rintro e w2 ⟨rfl, hw2⟩
      go_wp2_with (go_at_call 114; fail)
      refine (HD.out _).mono ?_
      rintro e w3 ⟨rfl, hw3⟩
      go_wp2
      go_ret
      exact ⟨rfl, below_below (below_below (pw_below_drewN (Below.refl _ w) n) (Nat.le_refl _) hw2) hw2.size hw3⟩
    | some r =>
      rw [hd] at HC
      clear hd
      rw [if_neg (by simp)]
      by_cases h1 : d ≤ 1
      · have h2 := hcm.2 h1
        rw [if_pos (.inl h1)]
        clear hcm hgt hgt1 h1
        go_enter Tryz.func104, Tryz.ntmps104
        go_wp2_with (go_at_call 72; refine (HC.out).mono ?_; rintro e w1 ⟨rfl, n, rfl⟩)
        go_wp2_with (go_at_call 114; fail)
        refine (HN.out _).mono ?_
        rintro e w2 ⟨rfl, hw2⟩
        go_wp2_with (go_at_call 114; fail)
        refine (HD.out _).mono ?_
        rintro e w3 ⟨rfl, hw3⟩
        have hB3 := below_below (below_below (pw_below_drewN (Below.refl _ w) n) (Nat.le_refl _) hw2) hw2.size hw3
        go_wp2_with (go_at_call 74; refine (HCmp.out _).mono ?_; rintro e w4 ⟨rfl, hw4⟩)
        have hB4 := below_below hB3 hB3.size hw4
        go_wp2_with (go_at_call 138; refine (HG.out _ (tab_below HT.out hB4)).mono ?_; rintro e w5 ⟨rfl, hw5⟩)
        go_wp2
        go_ret
        exact ⟨rfl, below_below hB4 hB4.size hw5⟩
      · have h2 : ¬ cm ≤ 0 := fun q => h1 (hcm.1 q)
        have h2' : 0 < cm := by omega
        clear hcm
        by_cases h3 : g = 1
        · rw [hgt1 h3] at HG
          rw [if_neg (by rintro (q | q); exact h1 q; exact q h3)]
          clear hgt hgt1 h3 h1
          go_enter Tryz.func104, Tryz.ntmps104
          go_wp2_with (go_at_call 72; refine (HC.out).mono ?_; rintro e w1 ⟨rfl, n, rfl⟩)
          go_wp2_with (go_at_call 114; fail)
          refine (HN.out _).mono ?_
          rintro e w2 ⟨rfl, hw2⟩
          go_wp2_with (go_at_call 114; fail)
          refine (HD.out _).mono ?_
          rintro e w3 ⟨rfl, hw3⟩
          have hB3 := below_below (below_below (pw_below_drewN (Below.refl _ w) n) (Nat.le_refl _) hw2) hw2.size hw3
          go_wp2_with (go_at_call 74; refine (HCmp.out _).mono ?_; rintro e w4 ⟨rfl, hw4⟩)
          have hB4 := below_below hB3 hB3.size hw4
          go_wp2_with (go_at_call 138; refine (HG.out _ (tab_below HT.out hB4)).mono ?_; rintro e w5 ⟨rfl, hw5⟩)
          go_wp2
          go_ret
          exact ⟨rfl, below_below hB4 hB4.size hw5⟩
        · have h4 := hgt (by omega)
          rw [if_pos (.inr h3)]
          clear hgt hgt1 h3 h1
          generalize T ((g : Nat) : Int) = gs at *
          go_enter Tryz.func104, Tryz.ntmps104
          go_wp2_with (go_at_call 72; refine (HC.out).mono ?_; rintro e w1 ⟨rfl, n, rfl⟩)
          go_wp2_with (go_at_call 114; fail)
          refine (HN.out _).mono ?_
          rintro e w2 ⟨rfl, hw2⟩
          go_wp2_with (go_at_call 114; fail)
          refine (HD.out _).mono ?_
          rintro e w3 ⟨rfl, hw3⟩
          have hB3 := below_below (below_below (pw_below_drewN (Below.refl _ w) n) (Nat.le_refl _) hw2) hw2.size hw3
          go_wp2_with (go_at_call 74; refine (HCmp.out _).mono ?_; rintro e w4 ⟨rfl, hw4⟩)
          have hB4 := below_below hB3 hB3.size hw4
          go_wp2_with (go_at_call 138; refine (HG.out _ (tab_below HT.out hB4)).mono ?_; rintro e w5 ⟨rfl, hw5⟩)
          go_wp2
          go_ret
          exact ⟨rfl, below_below hB4 hB4.size hw5⟩
  · by_cases h1 : chkL (numL s.data.toList) = 3 ∨ chkL (denL s.data.toList) = 3
    · rw [ratE_three h1]
      clear gn gd h0
      generalize chkL (numL s.data.toList) = en at *
      generalize chkL (denL s.data.toList) = ed at *
      generalize S (numL s.data.toList) = zs at *
      generalize S (denL s.data.toList) = ds at *
      generalize (denO s.data.toList).isSome = wr at *
      by_cases h2 : en = 3
      · subst h2
        clear vn vd h1
        go_enter Tryz.func104, Tryz.ntmps104
        go_wp2_with (go_at_call 72; refine (HC.out).mono ?_; rintro e w1 ⟨rfl, n, rfl⟩)
        go_wp2_with (go_at_call 114; fail)
        refine (HN.out _).mono ?_
        rintro e w2 ⟨rfl, hw2⟩
        go_wp2_with (go_at_call 114; fail)
        refine (HD.out _).mono ?_
        rintro e w3 ⟨rfl, hw3⟩
        have hB3 := below_below (below_below (pw_below_drewN (Below.refl _ w) n) (Nat.le_refl _) hw2) hw2.size hw3
        go_wp2
        go_ret
        exact ⟨rfl, hB3⟩
      · have h3 : ed = 3 := by omega
        subst h3
        have h2' : (en == 3) = false := by rw [beq_eq_false_iff_ne]; exact h2
        clear vn vd h1
        go_enter Tryz.func104, Tryz.ntmps104
        go_wp2_with (go_at_call 72; refine (HC.out).mono ?_; rintro e w1 ⟨rfl, n, rfl⟩)
        go_wp2_with (go_at_call 114; fail)
        refine (HN.out _).mono ?_
        rintro e w2 ⟨rfl, hw2⟩
        go_wp2_with (go_at_call 114; fail)
        refine (HD.out _).mono ?_
        rintro e w3 ⟨rfl, hw3⟩
        have hB3 := below_below (below_below (pw_below_drewN (Below.refl _ w) n) (Nat.le_refl _) hw2) hw2.size hw3
        go_wp2
        go_ret
        exact ⟨rfl, hB3⟩
    · rw [ratE_max h1 (by omega)]
      clear gn gd
      generalize chkL (numL s.data.toList) = en at *
      generalize chkL (denL s.data.toList) = ed at *
      generalize S (numL s.data.toList) = zs at *
      generalize S (denL s.data.toList) = ds at *
      generalize (denO s.data.toList).isSome = wr at *
      rcases (show (en = 0 ∧ ed = 11) ∨ (en = 11 ∧ ed = 0) ∨ (en = 11 ∧ ed = 11) by omega) with ⟨rfl, rfl⟩ | ⟨rfl, rfl⟩ | ⟨rfl, rfl⟩
      all_goals
        clear vn vd h1 h0
        go_enter Tryz.func104, Tryz.ntmps104
        go_wp2_with (go_at_call 72; refine (HC.out).mono ?_; rintro e w1 ⟨rfl, n, rfl⟩)
        go_wp2_with (go_at_call 114; fail)
        refine (HN.out _).mono ?_
        rintro e w2 ⟨rfl, hw2⟩
        go_wp2_with (go_at_call 114; fail)
        refine (HD.out _).mono ?_
        rintro e w3 ⟨rfl, hw3⟩
        have hB3 := below_below (below_below (pw_below_drewN (Below.refl _ w) n) (Nat.le_refl _) hw2) hw2.size hw3
        go_wp2
        go_ret
        exact ⟨rfl, hB3⟩
end Go.Proofs.YtdkfebfedfemaaaGreatDoor
