/- What the library answers, in the words of the proof; Check. all, Of, sign, order, result, small: the small functions over integers' texts. -/
import Derived.Test.YtdkfebfedfemaaaGreatDoorM7
import Derived.Test.YtdkfebfedfemaaaGreatDoorShelf
import Derived.Test.YtdkfebfedfemaaaGreatDoorW7
import Derived.Lib.SmallJoins
import Derived.Lib.AppendIntMem
import Derived.OwnWalk
import Derived.Handy
set_option linter.unusedVariables false
set_option linter.unusedSimpArgs false
namespace Go.Proofs.YtdkfebfedfemaaaGreatDoor
open Go.RowKit Go.Mlab

/-- The table that the printing of numbers reads. -/
def Tab (w : World) : Prop := Lib.TabIs Tryz.prog w "internal/strconv.uint64pow10" .u64 Lib.pow10Tab
theorem tab_global : Tryz.prog.globalNamed "internal/strconv.uint64pow10" = some (Tryz.prog.globalNamed "internal/strconv.uint64pow10").get! := by kernel_rfl
theorem tab_below {w w' : World} (h : Tab w) (k : Below w.heap.size w w') : Tab w' := Joins.tab_stays tab_global h k (Nat.le_refl _)
theorem tab_below' {B : Nat} {w w' : World} (h : Tab w) (k : Below B w w') (hB : w.heap.size ≤ B) : Tab w' := Joins.tab_stays tab_global h k hB
theorem tab_drewN {w : World} (h : Tab w) (n : Nat) : Tab (w.drewN n) := h
theorem itoa_calls (n : Int) (h0 : -9223372036854775808 ≤ n) (h1 : n ≤ 9223372036854775807) (w : World) (ht : Tab w) :
    Calls Tryz.prog 112 #[.int .i64 n] w fun e w' => e = .returned (.string (T n)) ∧ Below w.heap.size w w' := by
  refine (strconv_Itoa n h0 h1 w ht).mono ?_
  rintro e w' ⟨rfl, k, os, rfl⟩
  exact ⟨rfl, Lib.below_grow _ _ (Nat.le_refl _) _ _⟩
theorem atoi_calls (s : ByteArray) (n : Int) (hl : s.size ≤ 18) (h : Lib.atoi s.data.toList = some n) (w : World) :
    Calls Tryz.prog 167 #[.string s] w fun e w' => e = .returned (.tuple #[.int .i64 n, .nilIface]) ∧ Below w.heap.size w w' := by
  refine (strconv_Atoi s n hl h w).mono ?_
  rintro e w' ⟨rfl, t, rfl⟩
  exact ⟨rfl, Joins.below_bytesWorld _ _ _ _ (Nat.le_refl _)⟩
def minus : ByteArray := { data := #[45] }
theorem trimPrefix_calls (s : ByteArray) (w : World) :
    Calls Tryz.prog 111 #[.string s, .string { data := #[45] }] w fun e w' => e = .returned (.string (S (bare s.data.toList))) ∧ w' = w := by
  refine (strings_TrimPrefix s _ w).mono ?_
  rintro e w' ⟨rfl, rfl⟩
  refine ⟨?_, rfl⟩
  rw [show ({ data := #[45] } : ByteArray).data.toList = [45] from rfl, trimPrefix_minus]; rfl
set_option maxRecDepth 100000 in
theorem ascii_info : (Tryz.prog.info? (lays160_ren.t 116)).map (fun i => (i.zero, i.size)) = some (some (.agg (Array.replicate 256 (.bool false))), 256) := by kernel_rfl
theorem trim_calls (s : ByteArray) (hs : s.size ≤ 9223372036854775807) (w : World) :
    Calls Tryz.prog 149 #[.string s, .string { data := #[48, 49, 50, 51, 52, 53, 54, 55, 56, 57] }] w fun e w' => e = .returned (.string (S (Lib.trimS s.data.toList digs))) ∧ Below w.heap.size w w' :=
  Any.strings_Trim_laid lays160 ascii_info s { data := #[48, 49, 50, 51, 52, 53, 54, 55, 56, 57] } w hs (by decide) (ascii_of_all (by decide))

theorem S_eq_empty (l : List UInt8) : (S l = { data := #[] }) ↔ l = [] := by
  rw [show ({ data := #[] } : ByteArray) = S [] from rfl, S_inj]
theorem toList_nil (s : ByteArray) : s.toList = [] ↔ s.data.toList = [] := by rw [Lib.toList_data]
theorem chk_form1 {l : List UInt8} (h : bare l = []) : chkL l = 3 := by unfold chkL; rw [if_pos (.inl h)]
theorem chk_form2 {l : List UInt8} (h : ¬ (bare l).all isDig = true) : chkL l = 3 := by unfold chkL; rw [if_pos (.inr (.inl (by simpa using h)))]
theorem chk_form3 {l : List UInt8} (h : (bare l).head?.map (·.toNat) = some 48) (h2 : l ≠ [48]) : chkL l = 3 := by unfold chkL; rw [if_pos (.inr (.inr ⟨h, h2⟩))]
theorem chk_form4 {l : List UInt8} (h : bare l ≠ []) (h1 : (bare l).all isDig = true) (h2 : (bare l).head?.map (·.toNat) = some 48 → l = [48]) : chkL l = if 1024 < (bare l).length then 11 else 0 := by
  unfold chkL; rw [if_neg]
  rintro (q | q | ⟨q, q2⟩)
  · exact h q
  · rw [h1] at q; cases q
  · exact q2 (h2 q)
set_option maxHeartbeats 1000000 in
theorem check_calls (s : ByteArray) (hs : s.size ≤ 9223372036854775807) (w : World) :
    Calls Tryz.prog 114 #[.string s] w fun e w' => e = .returned (.int .i64 (chkL s.data.toList)) ∧ Below w.heap.size w w' := by
  have HT := Lib.hid (trimPrefix_calls s)
  have hb : (bare s.data.toList).length ≤ s.size := by
    show _ ≤ s.data.size
    rw [← Array.length_toList]
    cases s.data.toList with
    | nil => exact Nat.le_refl _
    | cons c r => rw [bare_cons]; split <;> simp
  have HD := Lib.hid (trim_calls (S (bare s.data.toList)) (by rw [S_size]; omega))
  have hds := S_toList (bare s.data.toList)
  generalize S (bare s.data.toList) = d at HT HD hds
  have ht := S_toList (Lib.trimS d.data.toList digs)
  generalize S (Lib.trimS d.data.toList digs) = t at HD ht
  have hl : d.size = (bare s.data.toList).length := by rw [← hds]; show d.data.size = _; rw [Array.length_toList]
  by_cases e1 : d.toList = []
  · rw [chk_form1 (by rw [← hds]; exact (toList_nil d).1 e1)]
    clear hds ht hl hb
    go_enter Tryz.func114, Tryz.ntmps114
    go_wp2_with (go_at_call 111; refine (HT.out _).mono ?_; rintro e w1 ⟨rfl, rfl⟩)
    go_ret
    exact ⟨rfl, Below.refl _ _⟩
  have n1 : d.data.toList ≠ [] := fun h => e1 ((toList_nil d).2 h)
  have e1' : d.toList.isEmpty = false := by rw [List.isEmpty_eq_false_iff]; exact e1
  by_cases e2 : t.toList = []
  · have hpos : 0 < d.size := by
      rw [hl, ← hds]
      exact List.length_pos_iff.2 n1
    have a1 : (bare s.data.toList).all isDig = true := by
      rw [← hds, ← trimS_nil_iff, ← ht]; exact (toList_nil t).1 e2
    rw [hds] at n1
    obtain ⟨c, r, hcr⟩ : ∃ c r, bare s.data.toList = c :: r := by
      cases h : bare s.data.toList with
      | nil => exact absurd h n1
      | cons c r => exact ⟨c, r, rfl⟩
    have h0 : (bare s.data.toList).head?.map (·.toNat) = some d[0].toNat := by
      rw [← hds]
      have : d[0] = d.data.toList[0]'(by rw [Array.length_toList]; exact hpos) := rfl
      rw [this, List.head?_eq_getElem?, List.getElem?_eq_getElem]; rfl
    have e2' : t.toList.isEmpty = true := by rw [List.isEmpty_iff]; exact e2
    have hlen : (bare s.data.toList).length < 9223372036854775808 := by omega
    by_cases g1 : d[0].toNat = 48
    · by_cases g2 : s.data.toList = [48]
      · have g3 : (s.toList == [48]) = true := by rw [Lib.toList_data, g2]; rfl
        rw [chk_form4 n1 a1 (fun _ => g2)]
        have g4 : ¬ 1024 < (bare s.data.toList).length := by rw [g2]; decide
        rw [if_neg g4]
        clear hds ht hb n1 a1 hcr h0
        go_enter Tryz.func114, Tryz.ntmps114
        go_wp2_with (go_at_call 111; refine (HT.out _).mono ?_; rintro e w1 ⟨rfl, rfl⟩)
        go_wp2_with (go_at_call 149; refine (HD.out _).mono ?_; rintro e w2 ⟨rfl, hw⟩)
        go_ret
        exact ⟨rfl, hw⟩
      · have g3 : (s.toList == [48]) = false := by rw [Lib.toList_data, beq_eq_false_iff_ne]; exact g2
        rw [chk_form3 (by rw [h0, g1]) g2]
        clear hds ht hb n1 a1 hcr h0
        go_enter Tryz.func114, Tryz.ntmps114
        go_wp2_with (go_at_call 111; refine (HT.out _).mono ?_; rintro e w1 ⟨rfl, rfl⟩)
        go_wp2_with (go_at_call 149; refine (HD.out _).mono ?_; rintro e w2 ⟨rfl, hw⟩)
        go_ret
        exact ⟨rfl, hw⟩
    · rw [chk_form4 n1 a1 (fun h => absurd (Option.some.inj (h0.symm.trans h)) g1)]
      clear hds ht hb n1 a1 hcr h0
      by_cases g2 : 1024 < (bare s.data.toList).length
      · rw [if_pos g2]
        go_enter Tryz.func114, Tryz.ntmps114
        go_wp2_with (go_at_call 111; refine (HT.out _).mono ?_; rintro e w1 ⟨rfl, rfl⟩)
        go_wp2_with (go_at_call 149; refine (HD.out _).mono ?_; rintro e w2 ⟨rfl, hw⟩)
        go_ret
        exact ⟨rfl, hw⟩
      · rw [if_neg g2]
        go_enter Tryz.func114, Tryz.ntmps114
        go_wp2_with (go_at_call 111; refine (HT.out _).mono ?_; rintro e w1 ⟨rfl, rfl⟩)
        go_wp2_with (go_at_call 149; refine (HD.out _).mono ?_; rintro e w2 ⟨rfl, hw⟩)
        go_ret
        exact ⟨rfl, hw⟩
  · rw [chk_form2 (by rw [← hds, ← trimS_nil_iff, ← ht]; exact fun h => e2 ((toList_nil t).2 h))]
    have e2' : t.toList.isEmpty = false := by rw [List.isEmpty_eq_false_iff]; exact e2
    clear hds ht hb n1
    go_enter Tryz.func114, Tryz.ntmps114
    go_wp2_with (go_at_call 111; refine (HT.out _).mono ?_; rintro e w1 ⟨rfl, rfl⟩)
    go_wp2_with (go_at_call 149; refine (HD.out _).mono ?_; rintro e w2 ⟨rfl, hw⟩)
    go_ret
    exact ⟨rfl, hw⟩
end Go.Proofs.YtdkfebfedfemaaaGreatDoor
set_option linter.unusedVariables false
set_option linter.unusedSimpArgs false
namespace Go.Proofs.YtdkfebfedfemaaaGreatDoor
open Go.RowKit Go.Mlab

/-- The cells of a list of texts. -/
def Texts (w : World) (b o : Nat) (ls : List ByteArray) : Prop := b < w.heap.size ∧ ∀ j, j < ls.length → w.cell? ⟨b, o + j, none⟩ = some (.string (ls.getD j ByteArray.empty))
theorem texts_below {w w1 : World} {b o : Nat} {ls : List ByteArray} (h : Texts w b o ls) (k : Below w.heap.size w w1) : Texts w1 b o ls :=
  ⟨Nat.lt_of_lt_of_le h.1 k.size, fun j hj => (k.cell (p := ⟨b, o + j, none⟩) h.1).trans (h.2 j hj)⟩
/-- The first error of some texts. -/
def allE : List ByteArray → Int
  | [] => 0
  | s :: r => if chkL s.data.toList = 0 then allE r else chkL s.data.toList

set_option maxHeartbeats 1000000 in
theorem all_calls (b o c : Nat) (ls : List ByteArray) (w : World) (hl : Texts w b o ls) (hn : ls.length ≤ c) (hs : ∀ s ∈ ls, s.size ≤ 9223372036854775807) (hn2 : ls.length ≤ 9223372036854775807) :
    Calls Tryz.prog 108 #[.slice (some ⟨b, o, none⟩) ls.length c] w fun e w' => e = .returned (.int .i64 (allE ls)) ∧ Below w.heap.size w w' := by
  have HL := Lib.hid (And.intro hl hs)
  clear hl hs
  obtain ⟨n, hln⟩ : ∃ n, ls.length = n := ⟨_, rfl⟩
  rw [hln] at hn hn2 ⊢
  have Hn := Lib.hid hln
  clear hln
  go_enter Tryz.func108, Tryz.ntmps108
  go_wp2
  go_loopg [8] n (fun k v8 wr => ∃ i : Nat, v8 = .int .i64 i ∧ k + i = n ∧ Hid (allE ls = allE (ls.drop i) ∧ Below w.heap.size w wr))
  case atStart => exact ⟨0, rfl, by omega, ⟨rfl, Below.refl _ _⟩⟩
  case round =>
    obtain ⟨i, rfl, hi, hr⟩ := hrel
    cases gk with
    | zero =>
      obtain rfl : i = n := by omega
      clear hi
      go_wp2
      go_ret
      refine ⟨?_, hr.out.2⟩
      rw [hr.out.1, ← Hn.out, List.drop_length]; rfl
    | succ m =>
      have hin : i < n := by omega
      have hc := (texts_below HL.out.1 hr.out.2).2 i (by rw [Hn.out]; exact hin)
      have hmem : ls.getD i ByteArray.empty ∈ ls := by
        rw [List.getD_eq_getElem?_getD, List.getElem?_eq_getElem (by rw [Hn.out]; exact hin)]; exact List.getElem_mem _
      have hK := Lib.hid (check_calls (ls.getD i ByteArray.empty) (HL.out.2 _ hmem))
      have hd : allE (ls.drop i) = if chkL (ls.getD i ByteArray.empty).data.toList = 0 then allE (ls.drop (i + 1)) else chkL (ls.getD i ByteArray.empty).data.toList := by
        rw [List.drop_eq_getElem_cons (by rw [Hn.out]; exact hin), List.getD_eq_getElem?_getD, List.getElem?_eq_getElem (by rw [Hn.out]; exact hin)]; rfl
      generalize ls.getD i ByteArray.empty = s at hc hK hd
      have H0 := Lib.hid hd
      clear hd hmem
      generalize he : chkL s.data.toList = e at hK H0
      clear he
      have hin2 : (i : Int) < n := by omega
      by_cases e0 : e = 0
      · subst e0
        have H1 := Lib.hid (show allE (ls.drop i) = allE (ls.drop (i + 1)) by rw [H0.out, if_pos rfl])
        clear H0
        go_wp2_with (go_at_call 114; refine (hK.out _).mono ?_; rintro e w1 ⟨rfl, hw⟩)
        go_roundg m
        case measure => omega
        case rel =>
          refine ⟨i + 1, by go_num, by omega, ⟨?_, below_below hr.out.2 hr.out.2.size hw⟩⟩
          rw [hr.out.1, H1.out]
      · go_wp2_with (go_at_call 114; refine (hK.out _).mono ?_; rintro e w1 ⟨rfl, hw⟩)
        go_ret
        refine ⟨?_, below_below hr.out.2 hr.out.2.size hw⟩
        rw [hr.out.1, H0.out, if_neg e0]; rfl

theorem of_calls (n : Int) (h0 : -9223372036854775808 ≤ n) (h1 : n ≤ 9223372036854775807) (w : World) (ht : Tab w) :
    Calls Tryz.prog 79 #[.int .i64 n] w fun e w' => e = .returned (.string (T n)) ∧ Below w.heap.size w w' := by
  have HT := Lib.hid (itoa_calls n h0 h1 w ht)
  clear ht h0 h1
  go_enter Tryz.func79, Tryz.ntmps79
  go_wp2_with (go_at_call 112; refine (HT.out).mono ?_; rintro e w1 ⟨rfl, hw⟩)
  go_ret
  exact ⟨rfl, hw⟩
theorem result_calls (n : Int) (h0 : -9223372036854775808 ≤ n) (h1 : n ≤ 9223372036854775807) (w : World) (ht : Tab w) :
    Calls Tryz.prog 141 #[.int .i64 n] w fun e w' => e = .returned (.tuple #[.string (T n), .int .i64 0]) ∧ Below w.heap.size w w' := by
  have HT := Lib.hid (of_calls n h0 h1 w ht)
  clear ht h0 h1
  go_enter Tryz.func141, Tryz.ntmps141
  go_wp2_with (go_at_call 79; refine (HT.out).mono ?_; rintro e w1 ⟨rfl, hw⟩)
  go_ret2
  exact ⟨rfl, hw⟩

/-! What a walk asks of an integer's text. -/
theorem T_list (z : Int) : (T z).toList = Lib.itoa z := by rw [Lib.toList_data]; rfl
theorem T_is0 {z : Int} (h : z ≠ 0) : ((T z).toList == [48]) = false := by
  rw [T_list, beq_eq_false_iff_ne, ← itoa_zero]; exact fun e => h (itoa_inj e)
theorem T_is1 {z : Int} (h : z ≠ 1) : ((T z).toList == [49]) = false := by
  rw [T_list, beq_eq_false_iff_ne, ← itoa_one]; exact fun e => h (itoa_inj e)
theorem T_get0 (z : Int) : (Lib.itoa z).head?.map (·.toNat) = some ((T z)[0]'(T_pos z)).toNat := by
  have h1 : (Lib.itoa z) = (T z).data.toList := rfl
  rw [h1]
  have : (T z)[0]'(T_pos z) = (T z).data.toList[0]'(by rw [Array.length_toList]; exact T_pos z) := rfl
  rw [this, List.head?_eq_getElem?, List.getElem?_eq_getElem]; rfl
theorem T_get_neg {z : Int} (h : z < 0) (hp : 0 < (T z).size) : ((T z)[0]'hp).toNat = 45 := by
  have h1 := itoa_head_neg.2 h
  rw [T_get0] at h1
  exact Option.some.inj h1
theorem T_get_nonneg {z : Int} (h : 0 ≤ z) (hp : 0 < (T z).size) : ((T z)[0]'hp).toNat ≠ 45 := by
  intro e
  have h1 := T_get0 z
  rw [e, itoa_head_neg] at h1
  omega
theorem T_zero_bytes : T 0 = { data := #[48] } := T_zero
theorem sign_calls (z : Int) (w : World) :
    Calls Tryz.prog 109 #[.string (T z)] w fun e w' => e = .returned (.int .i64 z.sign) ∧ w' = w := by
  by_cases h0 : z = 0
  · subst h0
    rw [T_zero_bytes]
    go_enter Tryz.func109, Tryz.ntmps109
    go_wp2
    go_ret
    exact ⟨rfl, rfl⟩
  · have a1 := T_is0 h0
    have a2 := T_pos z
    by_cases h1 : z < 0
    · rw [Int.sign_eq_neg_one_of_neg h1]
      have a3 := T_get_neg h1
      generalize T z = s at a1 a2 a3
      have a3 := a3 a2
      clear h0 h1
      go_enter Tryz.func109, Tryz.ntmps109
      go_wp2
      go_ret
      exact ⟨rfl, rfl⟩
    · rw [Int.sign_eq_one_of_pos (by omega)]
      have a3 := T_get_nonneg (z := z) (by omega)
      generalize T z = s at a1 a2 a3
      have a3 := a3 a2
      clear h0 h1
      go_enter Tryz.func109, Tryz.ntmps109
      go_wp2
      go_ret
      exact ⟨rfl, rfl⟩
/-- How two texts of magnitudes compare. -/
def ordL (a b : List UInt8) : Int := if a.length = b.length then Lib.compareBytes a b else if a.length < b.length then -1 else 1
theorem order_calls (s t : ByteArray) (w : World) (hs : s.size ≤ 9223372036854775807) (ht : t.size ≤ 9223372036854775807) :
    Calls Tryz.prog 110 #[.string s, .string t] w fun e w' => e = .returned (.int .i64 (ordL s.data.toList t.data.toList)) ∧ w' = w := by
  have HC := Lib.hid (strings_Compare s t w)
  have e1 : s.data.toList.length = s.size := by rw [Array.length_toList]; rfl
  have e2 : t.data.toList.length = t.size := by rw [Array.length_toList]; rfl
  unfold ordL
  rw [e1, e2]
  by_cases h1 : s.size = t.size
  · rw [if_pos h1]
    clear e1 e2
    go_enter Tryz.func110, Tryz.ntmps110
    go_wp2_with (go_at_call 145; refine (HC.out).mono ?_; rintro e w1 ⟨rfl, rfl⟩)
    go_ret
    exact ⟨rfl, rfl⟩
  · rw [if_neg h1]
    have h1' : (s.size : Int) ≠ t.size := by omega
    by_cases h2 : s.size < t.size
    · rw [if_pos h2]
      have h2' : (s.size : Int) < t.size := by omega
      clear e1 e2
      go_enter Tryz.func110, Tryz.ntmps110
      go_wp2
      go_ret
      exact ⟨rfl, rfl⟩
    · rw [if_neg h2]
      have h2' : ¬ (s.size : Int) < t.size := by omega
      clear e1 e2
      go_enter Tryz.func110, Tryz.ntmps110
      go_wp2
      go_ret
      exact ⟨rfl, rfl⟩
/-- Two integers' texts, read as ints if both are short. -/
theorem small_long (a b : Int) (w : World) (ha : (T a).size ≤ 9223372036854775807) (hb : (T b).size ≤ 9223372036854775807) (h : ¬ ((T a).size ≤ 9 ∧ (T b).size ≤ 9)) :
    Calls Tryz.prog 140 #[.string (T a), .string (T b)] w fun e w' => e = .returned (.tuple #[.int .i64 0, .int .i64 0, .bool false]) ∧ w' = w := by
  generalize T a = s at ha h
  generalize T b = t at hb h
  by_cases h1 : s.size ≤ 9
  · have h2 : ¬ t.size ≤ 9 := fun q => h ⟨h1, q⟩
    have h1' : ¬ 9 < (s.size : Int) := by omega
    have h2' : 9 < (t.size : Int) := by omega
    clear h h2
    go_enter Tryz.func140, Tryz.ntmps140
    go_wp2
    go_ret3
    exact ⟨rfl, rfl⟩
  · have h1' : 9 < (s.size : Int) := by omega
    clear h h1
    go_enter Tryz.func140, Tryz.ntmps140
    go_wp2
    go_ret3
    exact ⟨rfl, rfl⟩
theorem small_short (a b : Int) (w : World) (h1 : (T a).size ≤ 9) (h2 : (T b).size ≤ 9) :
    Calls Tryz.prog 140 #[.string (T a), .string (T b)] w fun e w' => e = .returned (.tuple #[.int .i64 a, .int .i64 b, .bool true]) ∧ Below w.heap.size w w' := by
  have HA := Lib.hid (atoi_calls (T a) a (Nat.le_trans h1 (by decide)) (atoi_itoa a))
  have HB := Lib.hid (atoi_calls (T b) b (Nat.le_trans h2 (by decide)) (atoi_itoa b))
  generalize T a = s at h1 HA
  generalize T b = t at h2 HB
  have h1' : ¬ 9 < (s.size : Int) := by omega
  have h2' : ¬ 9 < (t.size : Int) := by omega
  go_enter Tryz.func140, Tryz.ntmps140
  go_wp2_with (go_at_call 167; fail)
  refine (HA.out _).mono ?_
  rintro e w1 ⟨rfl, hw1⟩
  go_wp2_with (go_at_call 167; refine (HB.out _).mono ?_; rintro e w2 ⟨rfl, hw2⟩)
  go_ret3
  exact ⟨rfl, below_below hw1 hw1.size hw2⟩
theorem opposite_calls (z : Int) (w : World) (hz : (T z).size ≤ 4611686018427387904) :
    Calls Tryz.prog 206 #[.string (T z)] w fun e w' => e = .returned (.string (T (-z))) ∧ w' = w := by
  have HS := Lib.hid (sign_calls z w)
  by_cases h0 : z = 0
  · subst h0
    go_enter Tryz.func206, Tryz.ntmps206
    go_wp2_with (go_at_call 109; refine (HS.out).mono ?_; rintro e w1 ⟨rfl, rfl⟩)
    go_ret
    exact ⟨rfl, rfl⟩
  · have a2 := T_pos z
    by_cases h1 : z < 0
    · rw [Int.sign_eq_neg_one_of_neg h1] at HS
      have e : T (-z) = (T z).extract 1 (T z).size := by
        rw [Lib.extract_eq]
        unfold T
        rw [S_toList, itoa_neg' h1, itoa_nonneg' (by omega), S_size]
        show S _ = S _
        rw [S_inj, Int.natAbs_neg]
        simp
      rw [e]
      clear e
      generalize T z = s at a2 HS hz
      have a3 : (1 : Int) ≤ s.size := by omega
      clear h0 h1
      go_enter Tryz.func206, Tryz.ntmps206
      go_wp2_with (go_at_call 109; refine (HS.out).mono ?_; rintro e w1 ⟨rfl, rfl⟩)
      go_ret
      exact ⟨rfl, rfl⟩
    · rw [Int.sign_eq_one_of_pos (by omega)] at HS
      have e : T (-z) = ({ data := #[45] } : ByteArray) ++ T z := by
        apply WideShapes.bytes_inj
        rw [Joins.data_append]
        unfold T
        rw [S_toList, S_toList, itoa_neg' (by omega), itoa_nonneg' (by omega), Int.natAbs_neg]
        rfl
      rw [e]
      clear e
      generalize T z = s at a2 HS hz
      clear h0 h1
      go_enter Tryz.func206, Tryz.ntmps206
      go_wp2_with (go_at_call 109; refine (HS.out).mono ?_; rintro e w1 ⟨rfl, rfl⟩)
      go_ret
      exact ⟨rfl, rfl⟩
end Go.Proofs.YtdkfebfedfemaaaGreatDoor
