/- Make, Of, Whole, Mul, Div, Compare of rational numbers' texts. -/
import Derived.Test.YtdkfebfedfemaaaGreatDoorR3
set_option linter.unusedVariables false
set_option linter.unusedSimpArgs false
namespace Go.Proofs.YtdkfebfedfemaaaGreatDoor
open Go.RowKit Go.Mlab

theorem Q_size {r : Rat} (h : fitsR r = true) : (Q r).size ≤ 2051 := by
  have h1 := fits_len (fitsR_iff.1 h).1
  have h2 := fits_len (fitsR_iff.1 h).2
  unfold Q
  rw [S_size]
  unfold qtext
  rw [List.length_append]
  split
  · simp; omega
  · rw [List.length_cons]; omega
theorem Q_check {r : Rat} (h : fitsR r = true) : ratE (Q r).data.toList = 0 := ratE_text h
theorem checks2_ok (r s : Rat) (w : World) (ty : TypeId) (hr : fitsR r = true) (hs : fitsR s = true) (ht : Tab w) :
    Calls Tryz.prog 71 #[.slice (some ⟨w.heap.size, 0, none⟩) 2 2] (w.alloc (.cells #[.string (Q r), .string (Q s)] ty)) fun e w' => e = .returned (.int .i64 0) ∧ Below w.heap.size w w' := by
  have hA : Below w.heap.size w (w.alloc (.cells #[.string (Q r), .string (Q s)] ty)) := (Below.refl _ w).alloc (Nat.le_refl _) _
  have h := checks_calls w.heap.size 0 2 [Q r, Q s] (w.alloc (.cells #[.string (Q r), .string (Q s)] ty)) (texts_new2 w _ _ ty) (Nat.le_refl 2) (by
    intro x hx
    have a := Q_size hr
    have b := Q_size hs
    simp at hx; rcases hx with rfl | rfl <;> omega) (show 2 ≤ 9223372036854775807 by decide) (tab_below ht hA)
  refine h.mono ?_
  rintro e w' ⟨rfl, h2⟩
  refine ⟨?_, below_below hA hA.size h2⟩
  show _ = Ending.returned (Value.int .i64 0)
  unfold chksE
  rw [if_pos (Q_check hr)]
  unfold chksE
  rw [if_pos (Q_check hs)]
  rfl
theorem cut_Q (r : Rat) (w : World) (hr : fitsR r = true) :
    Calls Tryz.prog 72 #[.string (Q r)] w fun e w' => (∃ o, e = .returned (.tuple #[.string (T r.num), .string (T r.den), .bool o])) ∧ ∃ n, w' = w.drewN n := by
  refine (cut_calls (Q r) w (by have := Q_size hr; omega)).mono ?_
  rintro e w' ⟨rfl, h⟩
  refine ⟨⟨(denO (Q r).data.toList).isSome, ?_⟩, h⟩
  unfold cutW
  rw [show (Q r).data.toList = qtext r from rfl, numL_qtext, denL_qtext]; rfl
theorem whole_calls (n : Int) (h0 : -9223372036854775808 ≤ n) (h1 : n ≤ 9223372036854775807) (w : World) (ht : Tab w) :
    Calls Tryz.prog 53 #[.int .i64 n] w fun e w' => e = .returned (.string (Q n)) ∧ Below w.heap.size w w' := by
  have HT := Lib.hid (of_calls n h0 h1 w ht)
  have e : Q (n : Rat) = T n := by unfold Q T; rw [qtext_one (by rfl)]; rfl
  rw [e]
  clear ht h0 h1 e
  generalize T n = s at *
  go_enter Tryz.func53, Tryz.ntmps53
  go_wp2_with (go_at_call 79; refine (HT.out).mono ?_; rintro e w1 ⟨rfl, hw⟩)
  go_ret
  exact ⟨rfl, hw⟩
set_option maxHeartbeats 1000000 in
theorem make_calls (num den : Int) (w : World) (h1 : fits num = true) (h2 : fits den = true) (hd : den ≠ 0) (ht : Tab w) :
    Calls Tryz.prog 81 #[.string (T num), .string (T den)] w fun e w' => e = .returned (.tuple #[.string (Q (Rat.divInt num den)), .int .i64 0]) ∧ Below w.heap.size w w' := by
  have HT := Lib.hid ht
  clear ht
  have hck : ∀ z, fits z = true → ∀ w, Calls Tryz.prog 114 #[.string (T z)] w fun e w' => e = .returned (.int .i64 0) ∧ Below w.heap.size w w' := by
    intro z hz w
    have h := check_calls (T z) (by have := fits_size hz; omega) w
    have e : chkL (T z).data.toList = 0 := by rw [show (T z).data.toList = Lib.itoa z from rfl, chkL_itoa, hz]; rfl
    rw [e] at h; exact h
  have HC1 := Lib.hid (hck num h1)
  have HC2 := Lib.hid (hck den h2)
  have HLow := Lib.hid (fun b w1 (hL : Life w b 0 w1) => lowest_calls b num den w w1 hL h1 h2 hd HT.out)
  have hz := T_is0 hd
  have htx := Lib.hid (texts_new2 w (T num) (T den) 84)
  clear hck h1 h2 hd
  generalize Q (Rat.divInt num den) = out at *
  generalize T num = s at *
  generalize T den = t at *
  go_enter Tryz.func81, Tryz.ntmps81
  go_wp2
  go_loopg [15] 2 (fun k v15 wr => ∃ i : Nat, v15 = .int .i64 i ∧ k + i = 2 ∧ Hid (Below w.heap.size w wr ∧ w.heap.size < wr.heap.size ∧ Texts wr w.heap.size 0 [s, t]))
  case atStart => exact ⟨0, rfl, rfl, ⟨(Below.refl _ w).alloc (Nat.le_refl _) _, by simp, htx.out⟩⟩
  case round =>
    obtain ⟨i, rfl, hi, hr⟩ := hrel
    cases gk with
    | zero =>
      obtain rfl : i = 2 := by omega
      clear hi
      go_wp2_with (go_at_call 115; fail)
      have L0 := Lib.hid (show Life w wr.heap.size 0 (wr.alloc (.cells #[.int .i64 0] 92)) from
        ⟨sumAt_new wr, hr.out.1.alloc (Nat.le_of_lt hr.out.2.1) _, Nat.le_of_lt hr.out.2.1⟩)
      refine (HLow.out _ _ L0.out).mono ?_
      rintro e w2 ⟨rfl, k⟩
      have c2 := sumAt_cell k.s
      have L2 := Lib.hid k
      clear k
      go_wp2
      go_ret2
      exact ⟨rfl, L2.out.below⟩
    | succ m =>
      have hck : ∀ i, i < 2 → wr.cell? ⟨w.heap.size, i, none⟩ = some (.string ([s, t].getD i ByteArray.empty)) := by
        intro i hi
        have := hr.out.2.2.2 i hi
        rw [Nat.zero_add] at this; exact this
      rcases (show (m = 1 ∧ i = 0) ∨ (m = 0 ∧ i = 1) by omega) with ⟨rfl, rfl⟩ | ⟨rfl, rfl⟩
      · have c0 : wr.cell? ⟨w.heap.size, 0, none⟩ = some (.string s) := hck 0 (by decide)
        clear hck hi
        go_wp2_with (go_at_call 114; fail)
        refine (HC1.out _).mono ?_
        rintro e w2 ⟨rfl, hw2⟩
        have G2 := Lib.hid (And.intro (below_below hr.out.1 (Nat.le_of_lt hr.out.2.1) hw2) (And.intro (Nat.lt_of_lt_of_le hr.out.2.1 hw2.size) (texts_below hr.out.2.2 hw2)))
        clear hw2
        go_wp2
        go_roundg 1
        case measure => omega
        case rel => exact ⟨1, rfl, rfl, G2.out⟩
      · have c0 : wr.cell? ⟨w.heap.size, 1, none⟩ = some (.string t) := hck 1 (by decide)
        clear hck hi
        go_wp2_with (go_at_call 114; fail)
        refine (HC2.out _).mono ?_
        rintro e w2 ⟨rfl, hw2⟩
        have G2 := Lib.hid (And.intro (below_below hr.out.1 (Nat.le_of_lt hr.out.2.1) hw2) (And.intro (Nat.lt_of_lt_of_le hr.out.2.1 hw2.size) (texts_below hr.out.2.2 hw2)))
        clear hw2
        go_wp2
        go_roundg 0
        case measure => omega
        case rel => exact ⟨2, rfl, rfl, G2.out⟩
theorem fits64 {n : Int} (h0 : -9223372036854775808 ≤ n) (h1 : n ≤ 9223372036854775807) : fits n = true := by
  have h3 : (10 : Nat) ^ 19 = 10000000000000000000 := rfl
  exact fits_19 (by omega)
set_option maxHeartbeats 1000000 in
theorem rat_of_calls (n d : Int) (w : World) (h1 : -9223372036854775808 ≤ n ∧ n ≤ 9223372036854775807) (h2 : -9223372036854775808 ≤ d ∧ d ≤ 9223372036854775807) (hd : d ≠ 0) (ht : Tab w) :
    Calls Tryz.prog 45 #[.int .i64 n, .int .i64 d] w fun e w' => e = .returned (.tuple #[.string (Q (Rat.divInt n d)), .int .i64 0]) ∧ Below w.heap.size w w' := by
  have HT := Lib.hid ht
  clear ht
  have H1 := Lib.hid (fun w h => of_calls n h1.1 h1.2 w h)
  have H2 := Lib.hid (fun w h => of_calls d h2.1 h2.2 w h)
  have HM := Lib.hid (fun w h => make_calls n d w (fits64 h1.1 h1.2) (fits64 h2.1 h2.2) hd h)
  generalize Q (Rat.divInt n d) = out at *
  generalize T n = s at *
  generalize T d = t at *
  clear h1 h2 hd
  go_enter Tryz.func45, Tryz.ntmps45
  go_wp2_with (go_at_call 79; fail)
  refine (H1.out _ HT.out).mono ?_
  rintro e w1 ⟨rfl, hw1⟩
  go_wp2_with (go_at_call 79; fail)
  refine (H2.out _ (tab_below HT.out hw1)).mono ?_
  rintro e w2 ⟨rfl, hw2⟩
  have hB := below_below hw1 hw1.size hw2
  go_wp2_with (go_at_call 81; refine (HM.out _ (tab_below HT.out hB)).mono ?_; rintro e w3 ⟨rfl, hw3⟩)
  go_ret2
  exact ⟨rfl, below_below hB hB.size hw3⟩

/-! Operations on two numbers: made. -/
/-- What an operation's terms answer: the exact products, or an error. -/
def TermsPost (w0 : World) (b : Nat) (N D : Int) (r : Ending) (w' : World) : Prop :=
  ∃ v1 v2 e, r = .returned (.tuple #[.string (T v1), .string (T v2)]) ∧ Life w0 b e w' ∧ (fits N = true ∧ fits D = true → e = 0 ∧ v1 = N ∧ v2 = D) ∧ (¬ (fits N = true ∧ fits D = true) → e = 11)
theorem terms_two {n q m p : Int} : (fits (n * q) = true ∧ fits (m * p) = true → stepE (stepE 0 (n * q)) (m * p) = 0 ∧ stepV 0 (n * q) = n * q ∧ stepV (stepE 0 (n * q)) (m * p) = m * p) ∧
    (¬ (fits (n * q) = true ∧ fits (m * p) = true) → stepE (stepE 0 (n * q)) (m * p) = 11) := by
  constructor
  · rintro ⟨h1, h2⟩
    rw [(step_ok h1).1, (step_ok h1).2, (step_ok h2).1, (step_ok h2).2]; exact ⟨rfl, rfl, rfl⟩
  · intro h
    cases h1 : fits (n * q) with
    | true =>
      rw [(step_ok h1).2]
      unfold stepE; rw [if_pos rfl]
      cases h2 : fits (m * p) with
      | true => exact absurd ⟨h1, h2⟩ h
      | false => exact limE_no h2
    | false =>
      have e1 : stepE 0 (n * q) = 11 := by unfold stepE; rw [if_pos rfl]; exact limE_no h1
      rw [e1]; unfold stepE; rw [if_neg (by decide)]
set_option maxHeartbeats 1000000 in
theorem terms_mul (b : Nat) (n p m q : Int) (w0 w : World) (hL : Life w0 b 0 w) (hn : fits n = true) (hp : fits p = true) (hm : fits m = true) (hq : fits q = true) (ht : Tab w0) :
    Calls Tryz.prog 119 #[.pointer (some ⟨b, 0, none⟩), .string (T n), .string (T p), .string (T m), .string (T q)] w (TermsPost w0 b (n * m) (p * q)) := by
  have H1 := Lib.hid (mul2_calls b 0 n m 84 w0 w hL.below hL.low hL.s hn hm ht)
  have H2 := Lib.hid (fun w1 (h : Life w0 b (stepE 0 (n * m)) w1) => mul2_calls b (stepE 0 (n * m)) p q 84 w0 w1 h.below h.low h.s hp hq ht)
  have HL := Lib.hid hL
  have HK := Lib.hid (@terms_two n m p q)
  clear hL ht hn hp hm hq
  go_enter Tryz.func119, Tryz.ntmps119
  go_wp2_with (go_at_call 73; fail)
  refine (H1.out).mono ?_
  rintro e w1 ⟨rfl, k1, k2⟩
  have L1 := Lib.hid (HL.out.next k1 k2)
  clear k1 k2
  go_wp2_with (go_at_call 73; fail)
  refine (H2.out _ L1.out).mono ?_
  rintro e w2 ⟨rfl, k1, k2⟩
  have L2 := Lib.hid (L1.out.next k1 k2)
  clear k1 k2
  go_wp2
  go_ret2
  exact ⟨_, _, _, rfl, L2.out, HK.out.1, HK.out.2⟩
set_option maxHeartbeats 1000000 in
theorem made_mul (r s : Rat) (w : World) (hr : fitsR r = true) (hs : fitsR s = true) (hD : (r.den : Int) * (s.den : Int) ≠ 0) (ht : Tab w) :
    Calls Tryz.prog 118 #[.string (Q r), .string (Q s), .func (.func 119) #[] #[]] w fun e w' =>
      (fits (r.num * s.num) = true ∧ fits ((r.den : Int) * (s.den : Int)) = true → e = .returned (.tuple #[.string (Q (Rat.divInt (r.num * s.num) ((r.den : Int) * (s.den : Int)))), .int .i64 0])) ∧ (¬ (fits (r.num * s.num) = true ∧ fits ((r.den : Int) * (s.den : Int)) = true) → e = .returned (.tuple #[.string { data := #[] }, .int .i64 11])) ∧ Below w.heap.size w w' := by
  have HT := Lib.hid ht
  have HC := Lib.hid (checks2_ok r s w 25 hr hs ht)
  clear ht
  have HCr := Lib.hid (fun w => cut_Q r w hr)
  have HCs := Lib.hid (fun w => cut_Q s w hs)
  have r1 := fitsR_iff.1 hr
  have s1 := fitsR_iff.1 hs
  have HTm := Lib.hid (fun b w1 (hL : Life w b 0 w1) => terms_mul b r.num r.den s.num s.den w w1 hL r1.1 r1.2 s1.1 s1.2 HT.out)
  have HLow := Lib.hid (fun b w1 (hL : Life w b 0 w1) (h1 : fits (r.num * s.num) = true) (h2 : fits ((r.den : Int) * (s.den : Int)) = true) => lowest_calls b (r.num * s.num) ((r.den : Int) * (s.den : Int)) w w1 hL h1 h2 hD HT.out)
  have hz := T_is0 hD
  clear hr hs r1 s1
  generalize T r.num = rn at *
  generalize T (r.den : Int) = rd at *
  generalize T s.num = sn at *
  generalize T (s.den : Int) = sd at *
  generalize Q (Rat.divInt (r.num * s.num) ((r.den : Int) * (s.den : Int))) = out at *
  generalize (r.num * s.num) = N at *
  generalize ((r.den : Int) * (s.den : Int)) = D at *
  generalize Q r = qr at *
  generalize Q s = qs at *
  go_enter Tryz.func118, Tryz.ntmps118
  go_wp2_with (go_at_call 71; refine (HC.out).mono ?_; rintro e w1 ⟨rfl, hw1⟩)
  go_wp2_with (go_at_call 72; fail)
  refine (HCr.out _).mono ?_
  rintro e w2 ⟨⟨o1, rfl⟩, n2, rfl⟩
  go_wp2_with (go_at_call 72; fail)
  refine (HCs.out _).mono ?_
  rintro e w3 ⟨⟨o2, rfl⟩, n3, rfl⟩
  go_wp2_with (go_at_call 119; fail)
  have L0 := Lib.hid (show Life w w1.heap.size 0 ((w1.drewN (n2 + n3)).alloc (.cells #[.int .i64 0] 92)) from
    ⟨sumAt_new (w1.drewN (n2 + n3)), (pw_below_drewN hw1 _).alloc hw1.size _, hw1.size⟩)
  refine (HTm.out _ _ L0.out).mono ?_
  rintro e w4 ⟨v1, v2, e2, rfl, hL4, h4, h5⟩
  have c4 := sumAt_cell hL4.s
  have L4 := Lib.hid hL4
  clear hL4
  by_cases hok : fits N = true ∧ fits D = true
  · obtain ⟨rfl, rfl, rfl⟩ := h4 hok
    have hok2 := Lib.hid hok
    clear h4 h5
    have HL2 := Lib.hid (HLow.out _ _ L4.out hok.1 hok.2)
    clear hok HLow HTm
    generalize T v1 = tN at *
    generalize T v2 = tD at *
    go_wp2_with (go_at_call 115; fail)
    refine (HL2.out).mono ?_
    rintro e w5 ⟨rfl, hL5⟩
    have c5 := sumAt_cell hL5.s
    have L5 := Lib.hid hL5
    clear hL5
    go_wp2
    go_quiet (fail)
    go_wp2
    go_ret2
    exact ⟨fun _ => rfl, fun h => absurd hok2.out h, pw_below_drewN L5.out.below _⟩
  · obtain rfl := h5 hok
    have hok2 := Lib.hid hok
    clear h4 h5 hok HLow HTm
    go_wp2
    go_quiet (fail)
    go_wp2
    go_ret2
    exact ⟨fun h => absurd h hok2.out, fun _ => rfl, pw_below_drewN L4.out.below _⟩
set_option maxHeartbeats 1000000 in
theorem terms_div (b : Nat) (n p m q : Int) (w0 w : World) (hL : Life w0 b 0 w) (hn : fits n = true) (hp : fits p = true) (hm : fits m = true) (hq : fits q = true) (ht : Tab w0) :
    Calls Tryz.prog 120 #[.pointer (some ⟨b, 0, none⟩), .string (T n), .string (T p), .string (T m), .string (T q)] w (TermsPost w0 b (n * q) (p * m)) := by
  have H1 := Lib.hid (mul2_calls b 0 n q 84 w0 w hL.below hL.low hL.s hn hq ht)
  have H2 := Lib.hid (fun w1 (h : Life w0 b (stepE 0 (n * q)) w1) => mul2_calls b (stepE 0 (n * q)) p m 84 w0 w1 h.below h.low h.s hp hm ht)
  have HL := Lib.hid hL
  have HK := Lib.hid (@terms_two n q p m)
  clear hL ht hn hp hm hq
  go_enter Tryz.func120, Tryz.ntmps120
  go_wp2_with (go_at_call 73; fail)
  refine (H1.out).mono ?_
  rintro e w1 ⟨rfl, k1, k2⟩
  have L1 := Lib.hid (HL.out.next k1 k2)
  clear k1 k2
  go_wp2_with (go_at_call 73; fail)
  refine (H2.out _ L1.out).mono ?_
  rintro e w2 ⟨rfl, k1, k2⟩
  have L2 := Lib.hid (L1.out.next k1 k2)
  clear k1 k2
  go_wp2
  go_ret2
  exact ⟨_, _, _, rfl, L2.out, HK.out.1, HK.out.2⟩
set_option maxHeartbeats 1000000 in
theorem made_div (r s : Rat) (w : World) (hr : fitsR r = true) (hs : fitsR s = true) (hD : (r.den : Int) * s.num ≠ 0) (ht : Tab w) :
    Calls Tryz.prog 118 #[.string (Q r), .string (Q s), .func (.func 120) #[] #[]] w fun e w' =>
      (fits (r.num * (s.den : Int)) = true ∧ fits ((r.den : Int) * s.num) = true → e = .returned (.tuple #[.string (Q (Rat.divInt (r.num * (s.den : Int)) ((r.den : Int) * s.num))), .int .i64 0])) ∧ (¬ (fits (r.num * (s.den : Int)) = true ∧ fits ((r.den : Int) * s.num) = true) → e = .returned (.tuple #[.string { data := #[] }, .int .i64 11])) ∧ Below w.heap.size w w' := by
  have HT := Lib.hid ht
  have HC := Lib.hid (checks2_ok r s w 25 hr hs ht)
  clear ht
  have HCr := Lib.hid (fun w => cut_Q r w hr)
  have HCs := Lib.hid (fun w => cut_Q s w hs)
  have r1 := fitsR_iff.1 hr
  have s1 := fitsR_iff.1 hs
  have HTm := Lib.hid (fun b w1 (hL : Life w b 0 w1) => terms_div b r.num r.den s.num s.den w w1 hL r1.1 r1.2 s1.1 s1.2 HT.out)
  have HLow := Lib.hid (fun b w1 (hL : Life w b 0 w1) (h1 : fits (r.num * (s.den : Int)) = true) (h2 : fits ((r.den : Int) * s.num) = true) => lowest_calls b (r.num * (s.den : Int)) ((r.den : Int) * s.num) w w1 hL h1 h2 hD HT.out)
  have hz := T_is0 hD
  clear hr hs r1 s1
  generalize T r.num = rn at *
  generalize T (r.den : Int) = rd at *
  generalize T s.num = sn at *
  generalize T (s.den : Int) = sd at *
  generalize Q (Rat.divInt (r.num * (s.den : Int)) ((r.den : Int) * s.num)) = out at *
  generalize (r.num * (s.den : Int)) = N at *
  generalize ((r.den : Int) * s.num) = D at *
  generalize Q r = qr at *
  generalize Q s = qs at *
  go_enter Tryz.func118, Tryz.ntmps118
  go_wp2_with (go_at_call 71; refine (HC.out).mono ?_; rintro e w1 ⟨rfl, hw1⟩)
  go_wp2_with (go_at_call 72; fail)
  refine (HCr.out _).mono ?_
  rintro e w2 ⟨⟨o1, rfl⟩, n2, rfl⟩
  go_wp2_with (go_at_call 72; fail)
  refine (HCs.out _).mono ?_
  rintro e w3 ⟨⟨o2, rfl⟩, n3, rfl⟩
  go_wp2_with (go_at_call 120; fail)
  have L0 := Lib.hid (show Life w w1.heap.size 0 ((w1.drewN (n2 + n3)).alloc (.cells #[.int .i64 0] 92)) from
    ⟨sumAt_new (w1.drewN (n2 + n3)), (pw_below_drewN hw1 _).alloc hw1.size _, hw1.size⟩)
  refine (HTm.out _ _ L0.out).mono ?_
  rintro e w4 ⟨v1, v2, e2, rfl, hL4, h4, h5⟩
  have c4 := sumAt_cell hL4.s
  have L4 := Lib.hid hL4
  clear hL4
  by_cases hok : fits N = true ∧ fits D = true
  · obtain ⟨rfl, rfl, rfl⟩ := h4 hok
    have hok2 := Lib.hid hok
    clear h4 h5
    have HL2 := Lib.hid (HLow.out _ _ L4.out hok.1 hok.2)
    clear hok HLow HTm
    generalize T v1 = tN at *
    generalize T v2 = tD at *
    go_wp2_with (go_at_call 115; fail)
    refine (HL2.out).mono ?_
    rintro e w5 ⟨rfl, hL5⟩
    have c5 := sumAt_cell hL5.s
    have L5 := Lib.hid hL5
    clear hL5
    go_wp2
    go_quiet (fail)
    go_wp2
    go_ret2
    exact ⟨fun _ => rfl, fun h => absurd hok2.out h, pw_below_drewN L5.out.below _⟩
  · obtain rfl := h5 hok
    have hok2 := Lib.hid hok
    clear h4 h5 hok HLow HTm
    go_wp2
    go_quiet (fail)
    go_wp2
    go_ret2
    exact ⟨fun h => absurd h hok2.out, fun _ => rfl, pw_below_drewN L4.out.below _⟩

theorem rat_mul_eq (r s : Rat) : Rat.divInt (r.num * s.num) ((r.den : Int) * (s.den : Int)) = r * s := by
  rw [← Rat.divInt_mul_divInt, Rat.num_divInt_den, Rat.num_divInt_den]
theorem rat_div_eq (r s : Rat) : Rat.divInt (r.num * (s.den : Int)) ((r.den : Int) * s.num) = r / s := by
  rw [Rat.div_def, ← Rat.divInt_mul_divInt, Rat.num_divInt_den]
  congr 1
  conv => rhs; rw [← Rat.num_divInt_den s]
  rw [Rat.inv_divInt]
theorem den_ne (r : Rat) : (r.den : Int) ≠ 0 := by have := r.den_nz; omega
theorem rat_mul_calls (r s : Rat) (w : World) (hr : fitsR r = true) (hs : fitsR s = true) (h1 : fits (r.num * s.num) = true) (h2 : fits ((r.den : Int) * (s.den : Int)) = true) (ht : Tab w) :
    Calls Tryz.prog 85 #[.string (Q r), .string (Q s)] w fun e w' => e = .returned (.tuple #[.string (Q (r * s)), .int .i64 0]) ∧ Below w.heap.size w w' := by
  have H := Lib.hid (show Calls Tryz.prog 118 #[.string (Q r), .string (Q s), .func (.func 119) #[] #[]] w fun e w' => e = .returned (.tuple #[.string (Q (r * s)), .int .i64 0]) ∧ Below w.heap.size w w' by
    refine (made_mul r s w hr hs (Int.mul_ne_zero (den_ne r) (den_ne s)) ht).mono ?_
    rintro e w' ⟨k1, _, k2⟩
    rw [rat_mul_eq] at k1
    exact ⟨k1 ⟨h1, h2⟩, k2⟩)
  clear h1 h2 ht hr hs
  generalize Q (r * s) = out at *
  generalize Q r = qr at *
  generalize Q s = qs at *
  go_enter Tryz.func85, Tryz.ntmps85
  go_wp2_with (go_at_call 118; fail)
  refine (H.out).mono ?_
  rintro e w1 ⟨rfl, hw⟩
  go_wp2
  go_ret2
  exact ⟨rfl, hw⟩
theorem Q_is0 {s : Rat} (h : s ≠ 0) : ((Q s).toList == [48]) = false := by
  rw [Lib.toList_data, beq_eq_false_iff_ne]
  intro e
  apply h
  apply Q_inj
  have : Q (0 : Rat) = S [48] := by unfold Q; rw [qtext_one (by rfl)]; show S (Lib.itoa 0) = _; rw [itoa_zero]
  rw [this, ← e]; exact (S_of _).symm
theorem rat_num_ne {s : Rat} (h : s ≠ 0) : s.num ≠ 0 := fun e => h (Rat.num_eq_zero.1 e)
theorem rat_div_calls (r s : Rat) (w : World) (hr : fitsR r = true) (hs : fitsR s = true) (h0 : s ≠ 0) (h1 : fits (r.num * (s.den : Int)) = true) (h2 : fits ((r.den : Int) * s.num) = true) (ht : Tab w) :
    Calls Tryz.prog 86 #[.string (Q r), .string (Q s)] w fun e w' => e = .returned (.tuple #[.string (Q (r / s)), .int .i64 0]) ∧ Below w.heap.size w w' := by
  have H := Lib.hid (fun w ht => show Calls Tryz.prog 118 #[.string (Q r), .string (Q s), .func (.func 120) #[] #[]] w fun e w' => e = .returned (.tuple #[.string (Q (r / s)), .int .i64 0]) ∧ Below w.heap.size w w' by
    refine (made_div r s w hr hs (Int.mul_ne_zero (den_ne r) (rat_num_ne h0)) ht).mono ?_
    rintro e w' ⟨k1, _, k2⟩
    rw [rat_div_eq] at k1
    exact ⟨k1 ⟨h1, h2⟩, k2⟩)
  have HC := Lib.hid (checks2_ok r s w 25 hr hs ht)
  have hz := Q_is0 h0
  have HT := Lib.hid ht
  clear h1 h2 ht hr hs h0
  generalize Q (r / s) = out at *
  generalize Q r = qr at *
  generalize Q s = qs at *
  go_enter Tryz.func86, Tryz.ntmps86
  go_wp2_with (go_at_call 71; refine (HC.out).mono ?_; rintro e w1 ⟨rfl, hw1⟩)
  go_wp2_with (go_at_call 118; fail)
  refine (H.out _ (tab_below HT.out hw1)).mono ?_
  rintro e w2 ⟨rfl, hw⟩
  go_wp2
  go_ret2
  exact ⟨rfl, below_below hw1 hw1.size hw⟩
/-- The order of two numbers. -/
def cmpQ (r s : Rat) : Int := Lib.compareInt (r.num * s.den) (s.num * r.den)
set_option maxHeartbeats 1000000 in
theorem rat_cmp_calls (r s : Rat) (w : World) (hr : fitsR r = true) (hs : fitsR s = true) (h1 : fits (r.num * (s.den : Int)) = true) (h2 : fits (s.num * (r.den : Int)) = true) (ht : Tab w) :
    Calls Tryz.prog 40 #[.string (Q r), .string (Q s)] w fun e w' => e = .returned (.tuple #[.int .i64 (cmpQ r s), .int .i64 0]) ∧ Below w.heap.size w w' := by
  have HT := Lib.hid ht
  have HC := Lib.hid (checks2_ok r s w 25 hr hs ht)
  clear ht
  have HCr := Lib.hid (fun w => cut_Q r w hr)
  have HCs := Lib.hid (fun w => cut_Q s w hs)
  have r1 := fitsR_iff.1 hr
  have s1 := fitsR_iff.1 hs
  have H1 := Lib.hid (fun b w1 (hL : Life w b 0 w1) => mul2_calls b 0 r.num s.den 84 w w1 hL.below hL.low hL.s r1.1 s1.2 HT.out)
  have H2 := Lib.hid (fun b w1 (hL : Life w b 0 w1) => mul2_calls b 0 s.num r.den 84 w w1 hL.below hL.low hL.s s1.1 r1.2 HT.out)
  rw [(step_ok h1).1, (step_ok h1).2] at H1
  rw [(step_ok h2).1, (step_ok h2).2] at H2
  have HK := Lib.hid (fun w => compare_calls (r.num * s.den) (s.num * r.den) w h1 h2)
  unfold cmpQ
  clear hr hs r1 s1 h1 h2
  generalize T (r.num * s.den) = x at *
  generalize T (s.num * r.den) = y at *
  generalize Lib.compareInt (r.num * s.den) (s.num * r.den) = c at *
  generalize T r.num = rn at *
  generalize T (r.den : Int) = rd at *
  generalize T s.num = sn at *
  generalize T (s.den : Int) = sd at *
  generalize Q r = qr at *
  generalize Q s = qs at *
  go_enter Tryz.func40, Tryz.ntmps40
  go_wp2_with (go_at_call 71; refine (HC.out).mono ?_; rintro e w1 ⟨rfl, hw1⟩)
  go_wp2_with (go_at_call 72; fail)
  refine (HCr.out _).mono ?_
  rintro e w2 ⟨⟨o1, rfl⟩, n2, rfl⟩
  go_wp2_with (go_at_call 72; fail)
  refine (HCs.out _).mono ?_
  rintro e w3 ⟨⟨o2, rfl⟩, n3, rfl⟩
  go_wp2_with (go_at_call 73; fail)
  generalize hW : ((w1.drewN (n2 + n3)).alloc (.cells #[.int .i64 0] 92)) = W
  have L0 := Lib.hid (show Life w w1.heap.size 0 W from by
    rw [← hW]
    exact ⟨sumAt_new (w1.drewN (n2 + n3)), (pw_below_drewN hw1 _).alloc hw1.size _, hw1.size⟩)
  rw [show w1.heap.size + 1 = W.heap.size by rw [← hW]; simp]
  clear hW
  refine (H1.out _ _ L0.out).mono ?_
  rintro e w4 ⟨rfl, k1, k2⟩
  have L4 := Lib.hid (L0.out.next k1 k2)
  clear k1 k2
  go_wp2_with (go_at_call 73; fail)
  refine (H2.out _ _ L4.out).mono ?_
  rintro e w5 ⟨rfl, k1, k2⟩
  have c5 := sumAt_cell k1
  have L5 := Lib.hid (L4.out.next k1 k2)
  clear k1 k2
  go_wp2_with (go_at_call 74; fail)
  refine (HK.out _).mono ?_
  rintro e w6 ⟨rfl, hw6⟩
  go_wp2
  go_ret2
  exact ⟨rfl, below_below L5.out.below L5.out.below.size hw6⟩
end Go.Proofs.YtdkfebfedfemaaaGreatDoor
