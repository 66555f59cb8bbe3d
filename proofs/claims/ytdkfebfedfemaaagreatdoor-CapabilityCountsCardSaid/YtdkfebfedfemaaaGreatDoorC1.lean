/- What the library answers, in the words of the proof; Check. -/
import Derived.Test.YtdkfebfedfemaaaGreatDoorM5
import Derived.Test.YtdkfebfedfemaaaGreatDoorShelf
import Derived.Test.YtdkfebfedfemaaaGreatDoorW7
import Derived.Lib.SmallJoins
import Derived.Lib.AppendIntMem
set_option linter.unusedVariables false
set_option linter.unusedSimpArgs false
namespace Go.Proofs.YtdkfebfedfemaaaGreatDoor
open Go.RowKit Go.Mlab

/-- The table that the printing of numbers reads. -/
def Tab (w : World) : Prop := Lib.TabIs Tryz.prog w "internal/strconv.uint64pow10" .u64 Lib.pow10Tab
theorem tab_global : Tryz.prog.globalNamed "internal/strconv.uint64pow10" = some (Tryz.prog.globalNamed "internal/strconv.uint64pow10").get! := by kernel_rfl
theorem tab_below {w w' : World} (h : Tab w) (k : Below w.heap.size w w') : Tab w' := Joins.tab_stays tab_global h k (Nat.le_refl _)
theorem tab_below' {B : Nat} {w w' : World} (h : Tab w) (k : Below B w w') (hB : w.heap.size ≤ B) : Tab w' := Joins.tab_stays tab_global h k hB
theorem tab_drewN {w : World} (h : Tab w) (n : Nat) : Tab (w.drewN n) := h
theorem itoa_calls (n : Int) (h0 : -9223372036854775808 ≤ n) (h1 : n ≤ 9223372036854775807) (w : World) (ht : Tab w) :
    Calls Tryz.prog 112 #[.int .i64 n] w fun e w' => e = .returned (.string (T n)) ∧ Below w.heap.size w w' := by
  refine (strconv_Itoa n h0 h1 w ht).mono ?_
  rintro e w' ⟨rfl, k, os, rfl⟩
  exact ⟨rfl, Lib.below_grow _ _ (Nat.le_refl _) _ _⟩
theorem atoi_calls (s : ByteArray) (n : Int) (hl : s.size ≤ 18) (h : Lib.atoi s.data.toList = some n) (w : World) :
    Calls Tryz.prog 167 #[.string s] w fun e w' => e = .returned (.tuple #[.int .i64 n, .nilIface]) ∧ Below w.heap.size w w' := by
  refine (strconv_Atoi s n hl h w).mono ?_
  rintro e w' ⟨rfl, t, rfl⟩
  exact ⟨rfl, Joins.below_bytesWorld _ _ _ _ (Nat.le_refl _)⟩
def minus : ByteArray := { data := #[45] }
theorem trimPrefix_calls (s : ByteArray) (w : World) :
    Calls Tryz.prog 111 #[.string s, .string { data := #[45] }] w fun e w' => e = .returned (.string (S (bare s.data.toList))) ∧ w' = w := by
  refine (strings_TrimPrefix s _ w).mono ?_
  rintro e w' ⟨rfl, rfl⟩
  refine ⟨?_, rfl⟩
  rw [show ({ data := #[45] } : ByteArray).data.toList = [45] from rfl, trimPrefix_minus]; rfl
set_option maxRecDepth 100000 in
theorem ascii_info : (Tryz.prog.info? (lays160_ren.t 116)).map (fun i => (i.zero, i.size)) = some (some (.agg (Array.replicate 256 (.bool false))), 256) := by kernel_rfl
theorem trim_calls (s : ByteArray) (hs : s.size ≤ 9223372036854775807) (w : World) :
    Calls Tryz.prog 149 #[.string s, .string { data := #[48, 49, 50, 51, 52, 53, 54, 55, 56, 57] }] w fun e w' => e = .returned (.string (S (Lib.trimS s.data.toList digs))) ∧ Below w.heap.size w w' :=
  Any.strings_Trim_laid lays160 ascii_info s { data := #[48, 49, 50, 51, 52, 53, 54, 55, 56, 57] } w hs (by decide) (ascii_of_all (by decide))

theorem S_eq_empty (l : List UInt8) : (S l = { data := #[] }) ↔ l = [] := by
  rw [show ({ data := #[] } : ByteArray) = S [] from rfl, S_inj]
theorem toList_nil (s : ByteArray) : s.toList = [] ↔ s.data.toList = [] := by rw [Lib.toList_data]
theorem chk_form1 {l : List UInt8} (h : bare l = []) : chkL l = 3 := by unfold chkL; rw [if_pos (.inl h)]
theorem chk_form2 {l : List UInt8} (h : ¬ (bare l).all isDig = true) : chkL l = 3 := by unfold chkL; rw [if_pos (.inr (.inl (by simpa using h)))]
theorem chk_form3 {l : List UInt8} (h : (bare l).head?.map (·.toNat) = some 48) (h2 : l ≠ [48]) : chkL l = 3 := by unfold chkL; rw [if_pos (.inr (.inr ⟨h, h2⟩))]
theorem chk_form4 {l : List UInt8} (h : bare l ≠ []) (h1 : (bare l).all isDig = true) (h2 : (bare l).head?.map (·.toNat) = some 48 → l = [48]) : chkL l = if 1024 < (bare l).length then 11 else 0 := by
  unfold chkL; rw [if_neg]
  rintro (q | q | ⟨q, q2⟩)
  · exact h q
  · rw [h1] at q; cases q
  · exact q2 (h2 q)
set_option maxHeartbeats 1000000 in
theorem check_calls (s : ByteArray) (hs : s.size ≤ 9223372036854775807) (w : World) :
    Calls Tryz.prog 114 #[.string s] w fun e w' => e = .returned (.int .i64 (chkL s.data.toList)) ∧ Below w.heap.size w w' := by
  have HT := Lib.hid (trimPrefix_calls s)
  have hb : (bare s.data.toList).length ≤ s.size := by
    show _ ≤ s.data.size
    rw [← Array.length_toList]
    cases s.data.toList with
    | nil => exact Nat.le_refl _
    | cons c r => rw [bare_cons]; split <;> simp
  have HD := Lib.hid (trim_calls (S (bare s.data.toList)) (by rw [S_size]; omega))
  have hds := S_toList (bare s.data.toList)
  generalize S (bare s.data.toList) = d at HT HD hds
  have ht := S_toList (Lib.trimS d.data.toList digs)
  generalize S (Lib.trimS d.data.toList digs) = t at HD ht
  have hl : d.size = (bare s.data.toList).length := by rw [← hds]; show d.data.size = _; rw [Array.length_toList]
  by_cases e1 : d.toList = []
  · rw [chk_form1 (by rw [← hds]; exact (toList_nil d).1 e1)]
    clear hds ht hl hb
    go_enter Tryz.func114, Tryz.ntmps114
    go_wp2_with (go_at_call 111; refine (HT.out _).mono ?_; rintro e w1 ⟨rfl, rfl⟩)
    go_ret
    exact ⟨rfl, Below.refl _ _⟩
  have n1 : d.data.toList ≠ [] := fun h => e1 ((toList_nil d).2 h)
  have e1' : d.toList.isEmpty = false := by rw [List.isEmpty_eq_false_iff]; exact e1
  by_cases e2 : t.toList = []
  · have hpos : 0 < d.size := by
      rw [hl, ← hds]
      exact List.length_pos_iff.2 n1
    have a1 : (bare s.data.toList).all isDig = true := by
      rw [← hds, ← trimS_nil_iff, ← ht]; exact (toList_nil t).1 e2
    rw [hds] at n1
    obtain ⟨c, r, hcr⟩ : ∃ c r, bare s.data.toList = c :: r := by
      cases h : bare s.data.toList with
      | nil => exact absurd h n1
      | cons c r => exact ⟨c, r, rfl⟩
    have h0 : (bare s.data.toList).head?.map (·.toNat) = some d[0].toNat := by
      rw [← hds]
      have : d[0] = d.data.toList[0]'(by rw [Array.length_toList]; exact hpos) := rfl
      rw [this, List.head?_eq_getElem?, List.getElem?_eq_getElem]; rfl
    have e2' : t.toList.isEmpty = true := by rw [List.isEmpty_iff]; exact e2
    have hlen : (bare s.data.toList).length < 9223372036854775808 := by omega
    by_cases g1 : d[0].toNat = 48
    · by_cases g2 : s.data.toList = [48]
      · have g3 : (s.toList == [48]) = true := by rw [Lib.toList_data, g2]; rfl
        rw [chk_form4 n1 a1 (fun _ => g2)]
        have g4 : ¬ 1024 < (bare s.data.toList).length := by rw [g2]; decide
        rw [if_neg g4]
        clear hds ht hb n1 a1 hcr h0
        go_enter Tryz.func114, Tryz.ntmps114
        go_wp2_with (go_at_call 111; refine (HT.out _).mono ?_; rintro e w1 ⟨rfl, rfl⟩)
        go_wp2_with (go_at_call 149; refine (HD.out _).mono ?_; rintro e w2 ⟨rfl, hw⟩)
        go_ret
        exact ⟨rfl, hw⟩
      · have g3 : (s.toList == [48]) = false := by rw [Lib.toList_data, beq_eq_false_iff_ne]; exact g2
        rw [chk_form3 (by rw [h0, g1]) g2]
        clear hds ht hb n1 a1 hcr h0
        go_enter Tryz.func114, Tryz.ntmps114
        go_wp2_with (go_at_call 111; refine (HT.out _).mono ?_; rintro e w1 ⟨rfl, rfl⟩)
        go_wp2_with (go_at_call 149; refine (HD.out _).mono ?_; rintro e w2 ⟨rfl, hw⟩)
        go_ret
        exact ⟨rfl, hw⟩
    · rw [chk_form4 n1 a1 (fun h => absurd (Option.some.inj (h0.symm.trans h)) g1)]
      clear hds ht hb n1 a1 hcr h0
      by_cases g2 : 1024 < (bare s.data.toList).length
      · rw [if_pos g2]
        go_enter Tryz.func114, Tryz.ntmps114
        go_wp2_with (go_at_call 111; refine (HT.out _).mono ?_; rintro e w1 ⟨rfl, rfl⟩)
        go_wp2_with (go_at_call 149; refine (HD.out _).mono ?_; rintro e w2 ⟨rfl, hw⟩)
        go_ret
        exact ⟨rfl, hw⟩
      · rw [if_neg g2]
        go_enter Tryz.func114, Tryz.ntmps114
        go_wp2_with (go_at_call 111; refine (HT.out _).mono ?_; rintro e w1 ⟨rfl, rfl⟩)
        go_wp2_with (go_at_call 149; refine (HD.out _).mono ?_; rintro e w2 ⟨rfl, hw⟩)
        go_ret
        exact ⟨rfl, hw⟩
  · rw [chk_form2 (by rw [← hds, ← trimS_nil_iff, ← ht]; exact fun h => e2 ((toList_nil t).2 h))]
    have e2' : t.toList.isEmpty = false := by rw [List.isEmpty_eq_false_iff]; exact e2
    clear hds ht hb n1
    go_enter Tryz.func114, Tryz.ntmps114
    go_wp2_with (go_at_call 111; refine (HT.out _).mono ?_; rintro e w1 ⟨rfl, rfl⟩)
    go_wp2_with (go_at_call 149; refine (HD.out _).mono ?_; rintro e w2 ⟨rfl, hw⟩)
    go_ret
    exact ⟨rfl, hw⟩
end Go.Proofs.YtdkfebfedfemaaaGreatDoor
