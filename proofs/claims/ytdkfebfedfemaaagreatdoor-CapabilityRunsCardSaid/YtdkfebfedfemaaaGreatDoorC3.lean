/- text, limited: an integer's text. -/
import Derived.Test.YtdkfebfedfemaaaGreatDoorC2
set_option linter.unusedVariables false
set_option linter.unusedSimpArgs false
namespace Go.Proofs.YtdkfebfedfemaaaGreatDoor
open Go.RowKit Go.Mlab

abbrev IsB (b : Nat) (bs : List Value) (w : World) : Prop := Lib.IsBuilder 199 5 b b bs w
theorem isB_below {b : Nat} {bs : List Value} {w w' : World} (h : IsB b bs w) (k : Below w.heap.size w w') : IsB b bs w' := by
  have key : ∀ p, Lib.BuilderAt 199 5 b b p bs w → Lib.BuilderAt 199 5 b b p bs w' := by
    rintro p ⟨h1, v, h2, h3, h4⟩
    refine ⟨h1, v, (k.block b (Array.getElem?_eq_some_iff.1 h2).1).trans h2, ?_, h4⟩
    refine ⟨h3.1, ?_⟩
    rcases h3.2 with q | ⟨g, cap, cur, q1, q2, q3, q4⟩
    · exact .inl q
    · exact .inr ⟨g, cap, cur, q1, q2, (k.block g (Array.getElem?_eq_some_iff.1 q3).1).trans q3, q4⟩
  rcases h with h | h
  · exact .inl (key _ h)
  · exact .inr (key _ h)
theorem wb_calls (b : Nat) (l : List UInt8) (c : UInt8) (w : World) (h : IsB b (Lib.byteCells l) w) (hl : l.length ≤ 100000) (hb : b ≤ w.heap.size) :
    Calls Tryz.prog 188 #[.pointer (some ⟨b, 0, none⟩), .int .u8 c.toNat] w fun e w' => e = .returned .nilIface ∧ IsB b (Lib.byteCells (l ++ [c])) w' ∧ Below b w w' := by
  refine (Any.Builder_WriteByte laysB167 laysB_extra b b _ c.toNat w h (by rw [Lib.byteCells_length]; omega) hb).mono ?_
  rintro e w' ⟨rfl, h1, h2⟩
  refine ⟨rfl, .inr ?_, h2⟩
  have e : Lib.byteCells (l ++ [c]) = Lib.byteCells l ++ [.int .u8 c.toNat] := by simp [Lib.byteCells]
  rw [e]; exact h1
theorem ws_calls (b : Nat) (l m : List UInt8) (w : World) (h : IsB b (Lib.byteCells l) w) (hl : l.length + m.length ≤ 100000) (hb : b ≤ w.heap.size) :
    Calls Tryz.prog 189 #[.pointer (some ⟨b, 0, none⟩), .string (S m)] w fun e w' => e = .returned (.tuple #[.int .i64 m.length, .nilIface]) ∧ IsB b (Lib.byteCells (l ++ m)) w' ∧ Below b w w' := by
  refine (Any.Builder_WriteString laysB166 laysB_extra b b _ (S m) w h (by rw [Lib.byteCells_length, S_size]; omega) hb).mono ?_
  rintro e w' ⟨rfl, h1, h2⟩
  refine ⟨by rw [S_size], .inr ?_, h2⟩
  have e : Lib.byteCells (l ++ m) = Lib.byteCells l ++ Lib.strCells (S m) := by simp [Lib.byteCells, Lib.strCells, S]
  rw [e]; exact h1
theorem bs_calls (b : Nat) (l : List UInt8) (w : World) (h : IsB b (Lib.byteCells l) w) (hb : b ≤ w.heap.size) :
    Calls Tryz.prog 190 #[.pointer (some ⟨b, 0, none⟩)] w fun e w' => e = .returned (.string (S l)) ∧ Below b w w' :=
  Any.Builder_String_any laysB169 laysB_extra b b l w h hb

theorem isB_new (w : World) : IsB w.heap.size (Lib.byteCells []) (w.alloc (.cells #[.pointer none, .slice none 0 0] 199)) := Lib.fresh_isBuilder _ _ w
theorem drop_pos {x : Wide} (ok : WideOk x) {n : Nat} (hn : x.n = n + 1) {k : Nat} (hk : k ≤ n) : 1 ≤ mag (x.ws.drop k) := by
  have h1 := mag_append (x.ws.take k) (x.ws.drop k)
  rw [List.take_append_drop, List.length_take, ok.len, Nat.min_eq_left (by have := ok.le; omega)] at h1
  have h2 := ok.ge (by omega)
  rw [hn, Nat.add_sub_cancel] at h2
  have h3 : mag (x.ws.take k) < BB k := by
    have := mag_lt (ws := x.ws.take k) (fun a ha => ok.ok a (List.mem_of_mem_take ha))
    rw [List.length_take, ok.len, Nat.min_eq_left (by have := ok.le; omega)] at this
    exact this
  have h4 := BB_mono hk
  have h5 := mag_nonneg (ws := x.ws.drop k) (fun a ha => ok.ok a (List.mem_of_mem_drop ha))
  rcases Int.lt_or_le 0 (mag (x.ws.drop k)) with h | h
  · omega
  · have h6 : mag (x.ws.drop k) = 0 := by omega
    rw [h6] at h1
    unfold Wide.m at h2
    omega
theorem words_len {ws : List Int} (hl : ws.length = 232) (ok : wordsOk ws) (k : Nat) : (Lib.decDigits (mag (ws.drop k)).toNat).length ≤ 2088 := by
  rw [Lib.decDigits_length]
  refine (nDigits_le (by decide)).2 ?_
  have h1 := mag_lt (ws := ws.drop k) (fun a ha => ok a (List.mem_of_mem_drop ha))
  have h0 := mag_nonneg (ws := ws.drop k) (fun a ha => ok a (List.mem_of_mem_drop ha))
  have h2 := BB_mono (show (ws.drop k).length ≤ 232 by rw [List.length_drop, hl]; omega)
  have h3 : ∀ k, BB k = ((10 ^ (9 * k) : Nat) : Int) := by
    intro k
    unfold BB
    rw [show (1000000000 : Int) = ((10 ^ 9 : Nat) : Int) from rfl, ← Int.natCast_pow, ← Nat.pow_mul]
  rw [h3 232] at h2
  rw [show 2088 = 9 * 232 from rfl]
  generalize 10 ^ (9 * 232) = p at h2 ⊢
  omega
def zeros9 : ByteArray := { data := #[48, 48, 48, 48, 48, 48, 48, 48, 48] }
theorem pad_text {v : Int} (h0 : 0 ≤ v) (h1 : v < 1000000000) : zeros9.extract (T v).size 9 ++ T v = S (pad9 v.toNat) := by
  apply WideShapes.bytes_inj
  rw [Joins.data_append, Lib.extract_eq, S_toList]
  unfold pad9 T
  rw [S_toList, S_size, itoa_nonneg' h0, show v.natAbs = v.toNat by omega]
  have h2 := nDigits_le9 (v := v.toNat) (by omega)
  rw [← Lib.decDigits_length] at h2
  congr 1
  show List.take _ (List.drop _ (List.replicate 9 48)) = _
  rw [List.drop_replicate, List.take_replicate]
  congr 1
  omega
theorem T_size9 {v : Int} (h0 : 0 ≤ v) (h1 : v < 1000000000) : (T v).size ≤ 9 := by
  rw [T_size, itoa_nonneg' h0, Lib.decDigits_length]
  exact nDigits_le9 (by omega)
def signL (p : Bool) : List UInt8 := if p then [45] else []
theorem text_eq {x : Wide} (ok : WideOk x) (hn : x.n ≠ 0) : signL x.less ++ Lib.decDigits (mag (x.ws.drop 0)).toNat = Lib.itoa x.z := by
  rw [List.drop_zero]
  have h0 : 0 < x.m := by
    have h1 := ok.nonneg
    have h2 : x.m ≠ 0 := fun h => hn (ok.n_zero.2 h)
    omega
  unfold Wide.z
  cases x.less with
  | false =>
    show Lib.decDigits x.m.toNat = _
    rw [if_neg (by decide), itoa_nonneg' (by omega)]
    congr 1; omega
  | true =>
    show 45 :: Lib.decDigits x.m.toNat = _
    rw [if_pos rfl, itoa_neg' (by omega)]
    congr 2; omega
set_option maxRecDepth 100000 in
set_option maxHeartbeats 2000000 in
theorem text_calls (b : Nat) (x : Wide) (w : World) (hx : WideAt w b x) (ok : WideOk x) (ht : Tab w) :
    Calls Tryz.prog 165 #[.pointer (some ⟨b, 0, none⟩)] w fun e w' => e = .returned (.string (T x.z)) ∧ Below w.heap.size w w' := by
  have x0 := wideAt_less hx
  have x1 := wideAt_n hx
  by_cases hn : x.n = 0
  · have hz : x.z = 0 := by have := ok.n_zero.1 hn; unfold Wide.z; rw [this]; simp
    rw [hz, T_zero_bytes]
    rw [hn] at x1
    go_enter Tryz.func165, Tryz.ntmps165
    go_wp2
    go_ret
    exact ⟨rfl, Below.refl _ _⟩
  · have bl := wideAt_lt hx
    obtain ⟨n, hxn⟩ : ∃ n, x.n = n + 1 := ⟨x.n - 1, by omega⟩
    rw [hxn] at x1
    have x2 := wideAt_w hx n (by rw [ok.len]; have := ok.le; omega)
    have hB0 := Lib.hid (isB_new w)
    have hn2 : (n : Int) < 232 := by have := ok.le; omega
    have hn3 : n + 1 ≤ 232 := by omega
    have hwr : IntKind.i64.wrap (n : Int) = n := Go.IntWalk.i64_in _ ⟨by omega, by omega⟩
    have hfin := Lib.hid (text_eq ok hn)
    have HX := Lib.hid (And.intro hx (And.intro ok (And.intro ht hxn)))
    clear hx ok ht hxn hn
    have hF := Lib.hid (fun (W : World) (h : w.alloc (.cells #[.pointer none, .slice none 0 0] 199) = W) =>
      show WideAt W b x ∧ IsB w.heap.size (Lib.byteCells []) W ∧ Below w.heap.size w W ∧ w.heap.size < W.heap.size by
        rw [← h]; exact ⟨wideAt_alloc HX.out.1 _, hB0.out, (Below.refl _ _).alloc (Nat.le_refl _) _, by simp⟩)
    clear hB0
    have wv := wordsOk_get HX.out.2.1.ok n
    unfold wordOk at wv
    obtain ⟨p, hp⟩ : ∃ p, x.less = p := ⟨_, rfl⟩
    rw [hp] at x0 hfin
    clear hp
    cases p with
    | false =>
      go_enter Tryz.func165, Tryz.ntmps165
      go_wp2
      generalize hW : w.alloc (.cells #[.pointer none, .slice none 0 0] 199) = W
      have G1 := Lib.hid (hF.out W hW)
      clear hW hF
      have y1 := wideAt_n G1.out.1
      have y2 := wideAt_w G1.out.1 n (by rw [HX.out.2.1.len]; omega)
      rw [HX.out.2.2.2] at y1
      have HI := Lib.hid (itoa_calls (x.ws.getD n 0) (by omega) (by omega) W.drew (tab_drewN (tab_below HX.out.2.2.1 G1.out.2.2.1) 1))
      have hv0 : Lib.decDigits (mag (x.ws.drop n)).toNat = Lib.itoa (x.ws.getD n 0) := by
        rw [mag_drop_one x.ws n (by rw [HX.out.2.1.len]; omega) (fun i hi => HX.out.2.1.zero i (by rw [HX.out.2.2.2]; exact hi)), itoa_nonneg' wv.1]
        congr 1; omega
      have HV := Lib.hid hv0
      clear hv0
      generalize x.ws.getD n 0 = v at y2 HI x2 wv HV
      go_still_tail 10, (by kernel_rfl)
      change wpList _ _ _ _ _ W.drew
      have hvl := Lib.hid (T_size9 wv.1 wv.2)
      go_wp2_with (go_at_call 112; refine (HI.out).mono ?_; rintro e w1 ⟨rfl, hw1⟩)
      clear HI
      have G2 := Lib.hid (And.intro (show WideAt w1 b x from wideAt_below G1.out.1 (show Below W.heap.size W w1 from below_below (w0 := W) (pw_below_drewN (Below.refl _ W) 1) (Nat.le_refl _) hw1))
        (And.intro (isB_below (w := W) G1.out.2.1 (below_below (w0 := W) (pw_below_drewN (Below.refl _ W) 1) (Nat.le_refl _) hw1))
        (And.intro (below_below G1.out.2.2.1 (Nat.le_of_lt G1.out.2.2.2) (below_below (w0 := W) (pw_below_drewN (Below.refl _ W) 1) (Nat.le_refl _) hw1)) (Nat.lt_of_lt_of_le G1.out.2.2.2 hw1.size))))
      have HS := Lib.hid (ws_calls w.heap.size (signL false) (Lib.itoa v) w1 G2.out.2.1 (by have := hvl.out; rw [T_size] at this; simp only [signL, List.length_cons, List.length_nil, if_true, Bool.false_eq_true, if_false]; omega) (Nat.le_of_lt G2.out.2.2.2))
      clear hw1 G1
      go_wp2_with (go_at_call 189; fail)
      refine (HS.out).mono ?_
      rintro e w2 ⟨rfl, h1, h2⟩
      have G3 := Lib.hid (And.intro (show WideAt w2 b x from (h2.block b bl).trans G2.out.1) (And.intro (show IsB w.heap.size (Lib.byteCells (signL false ++ Lib.decDigits (mag (x.ws.drop n)).toNat)) w2 by rw [HV.out]; exact h1)
        (And.intro (G2.out.2.2.1.trans h2) (Nat.lt_of_lt_of_le G2.out.2.2.2 h2.size))))
      clear h1 h2 G2 HS
      have y1 := wideAt_n G3.out.1
      rw [HX.out.2.2.2] at y1
      clear y2 x2 x1 x0 wv hwr
      go_wp2
      go_loopg [4] n (fun k v4 wr => ∃ i : Int, v4 = .int .i64 i ∧ i + 1 = k ∧ k ≤ n ∧ Hid (WideAt wr b x ∧ IsB w.heap.size (Lib.byteCells (signL false ++ Lib.decDigits (mag (x.ws.drop k)).toNat)) wr ∧ Below w.heap.size w wr ∧ w.heap.size < wr.heap.size))
      case atStart => exact ⟨(n : Int) - 1, by go_num, by omega, Nat.le_refl _, G3.out⟩
      case round =>
        obtain ⟨i, rfl, hi, hk, hr⟩ := hrel
        cases gk with
        | zero =>
          obtain rfl : i = -1 := by omega
          clear hi
          have hS := Lib.hid (bs_calls w.heap.size (Lib.itoa x.z) wr (by have := hr.out.2.1; rw [hfin.out] at this; exact this) (Nat.le_of_lt hr.out.2.2.2))
          go_wp2_with (go_at_call 190; refine (hS.out).mono ?_; rintro e w3 ⟨rfl, h1⟩)
          go_ret
          exact ⟨rfl, hr.out.2.2.1.trans h1⟩
        | succ m =>
          obtain rfl : i = (m : Int) := by omega
          clear hi
          have wm := wordsOk_get HX.out.2.1.ok m
          unfold wordOk at wm
          have z2 := wideAt_w hr.out.1 m (by rw [HX.out.2.1.len]; omega)
          have hI := Lib.hid (itoa_calls (x.ws.getD m 0) (by omega) (by omega) wr (tab_below HX.out.2.2.1 hr.out.2.2.1))
          have hpad := Lib.hid (pad_text wm.1 wm.2)
          have hle := T_size9 wm.1 wm.2
          have hle2 : ((T (x.ws.getD m 0)).size : Int) ≤ 9 := by omega
          have hD := Lib.hid (decDigits_words HX.out.2.1.ok m (by rw [HX.out.2.1.len]; omega) (drop_pos HX.out.2.1 HX.out.2.2.2 (show m + 1 ≤ n by omega)))
          have hlen9 := Lib.hid (pad9_length (v := (x.ws.getD m 0).toNat) (by omega))
          have hm3 : m < 232 := by omega
          have hm4 : (m : Int) < 232 := by omega
          generalize x.ws.getD m 0 = u at z2 hI hpad hle hle2 hD wm hlen9
          go_wp2_with (go_at_call 112; refine (hI.out).mono ?_; rintro e w3 ⟨rfl, hw3⟩)
          have G5 := Lib.hid (And.intro (wideAt_below hr.out.1 hw3) (And.intro (isB_below hr.out.2.1 hw3) (And.intro (below_below hr.out.2.2.1 (Nat.le_of_lt hr.out.2.2.2) hw3) (Nat.lt_of_lt_of_le hr.out.2.2.2 hw3.size))))
          have hS := Lib.hid (ws_calls w.heap.size _ (pad9 u.toNat) w3 G5.out.2.1 (by
            have h1 := words_len HX.out.2.1.len HX.out.2.1.ok (m + 1)
            have h2 := hlen9.out
            rw [List.length_append]
            have h3 : (signL false).length ≤ 1 := by decide
            omega) (Nat.le_of_lt G5.out.2.2.2))
          clear hw3
          rw [show ({ data := #[48, 48, 48, 48, 48, 48, 48, 48, 48] } : ByteArray).extract (T u).size 9 ++ T u = S (pad9 u.toNat) from hpad.out]
          refine (hS.out).mono ?_
          rintro e w4 ⟨rfl, h1, h2⟩
          have G6 := Lib.hid (And.intro (show WideAt w4 b x from (h2.block b bl).trans G5.out.1) (And.intro (show IsB w.heap.size (Lib.byteCells (signL false ++ Lib.decDigits (mag (x.ws.drop m)).toNat)) w4 by rw [hD.out, ← List.append_assoc]; exact h1)
            (And.intro (G5.out.2.2.1.trans h2) (Nat.lt_of_lt_of_le G5.out.2.2.2 h2.size))))
          clear h1 h2
          go_wp2
          go_roundg m
          case measure => omega
          case rel => exact ⟨(m : Int) - 1, by go_num, by omega, by omega, G6.out⟩
    | true =>
      go_enter Tryz.func165, Tryz.ntmps165
      go_wp2_with (go_at_call 188; fail)
      generalize hW : w.alloc (.cells #[.pointer none, .slice none 0 0] 199) = W0
      have G0 := Lib.hid (hF.out W0 hW)
      clear hW hF
      have HW := Lib.hid (wb_calls w.heap.size [] 45 W0 G0.out.2.1 (by decide) (Nat.le_of_lt G0.out.2.2.2))
      refine (HW.out).mono ?_
      rintro e W ⟨rfl, h1, h2⟩
      have G1 := Lib.hid (And.intro (show WideAt W b x from (h2.block b bl).trans G0.out.1) (And.intro (show IsB w.heap.size (Lib.byteCells (signL true)) W from h1) (And.intro (G0.out.2.2.1.trans h2) (Nat.lt_of_lt_of_le G0.out.2.2.2 h2.size))))
      clear h1 h2 G0 HW
      go_wp2
      have y1 := wideAt_n G1.out.1
      have y2 := wideAt_w G1.out.1 n (by rw [HX.out.2.1.len]; omega)
      rw [HX.out.2.2.2] at y1
      have HI := Lib.hid (itoa_calls (x.ws.getD n 0) (by omega) (by omega) W.drew (tab_drewN (tab_below HX.out.2.2.1 G1.out.2.2.1) 1))
      have hv0 : Lib.decDigits (mag (x.ws.drop n)).toNat = Lib.itoa (x.ws.getD n 0) := by
        rw [mag_drop_one x.ws n (by rw [HX.out.2.1.len]; omega) (fun i hi => HX.out.2.1.zero i (by rw [HX.out.2.2.2]; exact hi)), itoa_nonneg' wv.1]
        congr 1; omega
      have HV := Lib.hid hv0
      clear hv0
      generalize x.ws.getD n 0 = v at y2 HI x2 wv HV
      go_still_tail 10, (by kernel_rfl)
      change wpList _ _ _ _ _ W.drew
      have hvl := Lib.hid (T_size9 wv.1 wv.2)
      go_wp2_with (go_at_call 112; refine (HI.out).mono ?_; rintro e w1 ⟨rfl, hw1⟩)
      clear HI
      have G2 := Lib.hid (And.intro (show WideAt w1 b x from wideAt_below G1.out.1 (show Below W.heap.size W w1 from below_below (w0 := W) (pw_below_drewN (Below.refl _ W) 1) (Nat.le_refl _) hw1))
        (And.intro (isB_below (w := W) G1.out.2.1 (below_below (w0 := W) (pw_below_drewN (Below.refl _ W) 1) (Nat.le_refl _) hw1))
        (And.intro (below_below G1.out.2.2.1 (Nat.le_of_lt G1.out.2.2.2) (below_below (w0 := W) (pw_below_drewN (Below.refl _ W) 1) (Nat.le_refl _) hw1)) (Nat.lt_of_lt_of_le G1.out.2.2.2 hw1.size))))
      have HS := Lib.hid (ws_calls w.heap.size (signL true) (Lib.itoa v) w1 G2.out.2.1 (by have := hvl.out; rw [T_size] at this; simp only [signL, List.length_cons, List.length_nil, if_true, Bool.false_eq_true, if_false]; omega) (Nat.le_of_lt G2.out.2.2.2))
      clear hw1 G1
      go_wp2_with (go_at_call 189; fail)
      refine (HS.out).mono ?_
      rintro e w2 ⟨rfl, h1, h2⟩
      have G3 := Lib.hid (And.intro (show WideAt w2 b x from (h2.block b bl).trans G2.out.1) (And.intro (show IsB w.heap.size (Lib.byteCells (signL true ++ Lib.decDigits (mag (x.ws.drop n)).toNat)) w2 by rw [HV.out]; exact h1)
        (And.intro (G2.out.2.2.1.trans h2) (Nat.lt_of_lt_of_le G2.out.2.2.2 h2.size))))
      clear h1 h2 G2 HS
      have y1 := wideAt_n G3.out.1
      rw [HX.out.2.2.2] at y1
      clear y2 x2 x1 x0 wv hwr
      go_wp2
      go_loopg [4] n (fun k v4 wr => ∃ i : Int, v4 = .int .i64 i ∧ i + 1 = k ∧ k ≤ n ∧ Hid (WideAt wr b x ∧ IsB w.heap.size (Lib.byteCells (signL true ++ Lib.decDigits (mag (x.ws.drop k)).toNat)) wr ∧ Below w.heap.size w wr ∧ w.heap.size < wr.heap.size))
      case atStart => exact ⟨(n : Int) - 1, by go_num, by omega, Nat.le_refl _, G3.out⟩
      case round =>
        obtain ⟨i, rfl, hi, hk, hr⟩ := hrel
        cases gk with
        | zero =>
          obtain rfl : i = -1 := by omega
          clear hi
          have hS := Lib.hid (bs_calls w.heap.size (Lib.itoa x.z) wr (by have := hr.out.2.1; rw [hfin.out] at this; exact this) (Nat.le_of_lt hr.out.2.2.2))
          go_wp2_with (go_at_call 190; refine (hS.out).mono ?_; rintro e w3 ⟨rfl, h1⟩)
          go_ret
          exact ⟨rfl, hr.out.2.2.1.trans h1⟩
        | succ m =>
          obtain rfl : i = (m : Int) := by omega
          clear hi
          have wm := wordsOk_get HX.out.2.1.ok m
          unfold wordOk at wm
          have z2 := wideAt_w hr.out.1 m (by rw [HX.out.2.1.len]; omega)
          have hI := Lib.hid (itoa_calls (x.ws.getD m 0) (by omega) (by omega) wr (tab_below HX.out.2.2.1 hr.out.2.2.1))
          have hpad := Lib.hid (pad_text wm.1 wm.2)
          have hle := T_size9 wm.1 wm.2
          have hle2 : ((T (x.ws.getD m 0)).size : Int) ≤ 9 := by omega
          have hD := Lib.hid (decDigits_words HX.out.2.1.ok m (by rw [HX.out.2.1.len]; omega) (drop_pos HX.out.2.1 HX.out.2.2.2 (show m + 1 ≤ n by omega)))
          have hlen9 := Lib.hid (pad9_length (v := (x.ws.getD m 0).toNat) (by omega))
          have hm3 : m < 232 := by omega
          have hm4 : (m : Int) < 232 := by omega
          generalize x.ws.getD m 0 = u at z2 hI hpad hle hle2 hD wm hlen9
          go_wp2_with (go_at_call 112; refine (hI.out).mono ?_; rintro e w3 ⟨rfl, hw3⟩)
          have G5 := Lib.hid (And.intro (wideAt_below hr.out.1 hw3) (And.intro (isB_below hr.out.2.1 hw3) (And.intro (below_below hr.out.2.2.1 (Nat.le_of_lt hr.out.2.2.2) hw3) (Nat.lt_of_lt_of_le hr.out.2.2.2 hw3.size))))
          have hS := Lib.hid (ws_calls w.heap.size _ (pad9 u.toNat) w3 G5.out.2.1 (by
            have h1 := words_len HX.out.2.1.len HX.out.2.1.ok (m + 1)
            have h2 := hlen9.out
            rw [List.length_append]
            have h3 : (signL true).length ≤ 1 := by decide
            omega) (Nat.le_of_lt G5.out.2.2.2))
          clear hw3
          rw [show ({ data := #[48, 48, 48, 48, 48, 48, 48, 48, 48] } : ByteArray).extract (T u).size 9 ++ T u = S (pad9 u.toNat) from hpad.out]
          refine (hS.out).mono ?_
          rintro e w4 ⟨rfl, h1, h2⟩
          have G6 := Lib.hid (And.intro (show WideAt w4 b x from (h2.block b bl).trans G5.out.1) (And.intro (show IsB w.heap.size (Lib.byteCells (signL true ++ Lib.decDigits (mag (x.ws.drop m)).toNat)) w4 by rw [hD.out, ← List.append_assoc]; exact h1)
            (And.intro (G5.out.2.2.1.trans h2) (Nat.lt_of_lt_of_le G5.out.2.2.2 h2.size))))
          clear h1 h2
          go_wp2
          go_roundg m
          case measure => omega
          case rel => exact ⟨(m : Int) - 1, by go_num, by omega, by omega, G6.out⟩
end Go.Proofs.YtdkfebfedfemaaaGreatDoor
