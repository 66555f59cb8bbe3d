/- limited; read: an integer's text is turned into words. -/
import Derived.Test.YtdkfebfedfemaaaGreatDoorC3
import Derived.Deep.RegionHeld3
set_option linter.unusedVariables false
set_option linter.unusedSimpArgs false
namespace Go.Proofs.YtdkfebfedfemaaaGreatDoor
open Go.RowKit Go.Mlab

/-- What a result that may be too long is. -/
def limT (z : Int) : ByteArray := if fits z then T z else { data := #[] }
def limE (z : Int) : Int := if fits z then 0 else 11
abbrev lim (z : Int) : Value := .tuple #[.string (limT z), .int .i64 (limE z)]
theorem limT_ok {z : Int} (h : fits z = true) : limT z = T z := by unfold limT; rw [h]; rfl
theorem limE_ok {z : Int} (h : fits z = true) : limE z = 0 := by unfold limE; rw [h]; rfl
theorem limT_no {z : Int} (h : fits z = false) : limT z = { data := #[] } := by unfold limT; rw [h]; rfl
theorem limE_no {z : Int} (h : fits z = false) : limE z = 11 := by unfold limE; rw [h]; rfl
theorem limE_iff {z : Int} : limE z = 0 ↔ fits z = true := by unfold limE; cases fits z <;> simp
theorem limited_calls (b : Nat) (x : Wide) (w : World) (hx : WideAt w b x) (ok : WideOk x) (ht : Tab w) (hz : (T x.z).size ≤ 9223372036854775807) :
    Calls Tryz.prog 144 #[.pointer (some ⟨b, 0, none⟩)] w fun e w' => e = .returned (lim x.z) ∧ Below w.heap.size w w' := by
  have HT := Lib.hid (text_calls b x w hx ok ht)
  have HC := Lib.hid (check_calls (T x.z) hz)
  have e : chkL (T x.z).data.toList = if fits x.z then 0 else 11 := chkL_itoa _
  rw [e] at HC
  clear e
  unfold lim limT limE
  clear ht hx ok hz
  cases hf : fits x.z with
  | true =>
    rw [hf] at HC
    clear hf
    generalize T x.z = s at *
    go_enter Tryz.func144, Tryz.ntmps144
    go_wp2_with (go_at_call 165; refine (HT.out).mono ?_; rintro e w1 ⟨rfl, hw1⟩)
    go_wp2_with (go_at_call 114; refine (HC.out _).mono ?_; rintro e w2 ⟨rfl, hw2⟩)
    go_ret2
    exact ⟨rfl, below_below hw1 hw1.size hw2⟩
  | false =>
    rw [hf] at HC
    clear hf
    generalize T x.z = s at *
    go_enter Tryz.func144, Tryz.ntmps144
    go_wp2_with (go_at_call 165; refine (HT.out).mono ?_; rintro e w1 ⟨rfl, hw1⟩)
    go_wp2_with (go_at_call 114; refine (HC.out _).mono ?_; rintro e w2 ⟨rfl, hw2⟩)
    go_ret2
    exact ⟨rfl, below_below hw1 hw1.size hw2⟩

/-- What the reading loop keeps: of the digits ds the first m are left; i words are read. -/
structure Rd (ds : List UInt8) (m i : Nat) (ws : List Int) : Prop where
  len : ws.length = 232
  ok : wordsOk ws
  zero : ∀ j, i ≤ j → ws.getD j 0 = 0
  left : m ≤ ds.length
  even : m ≠ 0 → ds.length = m + 9 * i
  sum : mag ws = (dval (ds.drop m) : Int)
  num : 9 * i ≤ ds.length + 8
theorem Rd.start (ds : List UInt8) : Rd ds ds.length 0 zeroW :=
  ⟨zeroW_len, zeroW_ok, fun i _ => zeroW_at i, Nat.le_refl _, fun _ => rfl, by rw [List.drop_length]; exact zeroW_m false 0, by omega⟩
theorem BB_pow (i : Nat) : BB i = ((10 ^ (9 * i) : Nat) : Int) := by
  unfold BB
  rw [show (1000000000 : Int) = ((10 ^ 9 : Nat) : Int) from rfl, ← Int.natCast_pow, ← Nat.pow_mul]
theorem Rd.step {ds : List UInt8} {m i : Nat} {ws : List Int} (h : Rd ds m i ws) (hd : ∀ c ∈ ds, isDig c = true) (hl : ds.length ≤ 1024) (h0 : m ≠ 0) :
    Rd ds (m - 9) (i + 1) (ws.set i (dval ((ds.take m).drop (m - 9)) : Int)) := by
  have he := h.even h0
  have hi : i < 232 := by omega
  have hdig : ∀ c ∈ (ds.take m).drop (m - 9), isDig c = true := fun c hc => hd c (List.mem_of_mem_take (List.mem_of_mem_drop hc))
  have hlt := dval_lt _ hdig
  have hle : ((ds.take m).drop (m - 9)).length ≤ 9 := by rw [List.length_drop, List.length_take]; omega
  have hp : 10 ^ ((ds.take m).drop (m - 9)).length ≤ 10 ^ 9 := Nat.pow_le_pow_right (by decide) hle
  have h9 : (10 : Nat) ^ 9 = 1000000000 := rfl
  refine ⟨by rw [List.length_set]; exact h.len, wordsOk_set h.ok i ⟨by omega, by omega⟩, ?_, by have := h.left; omega, by omega, ?_, by omega⟩
  · intro j hj
    rw [List.getD_eq_getElem?_getD, List.getElem?_set_ne (by omega), ← List.getD_eq_getElem?_getD]
    exact h.zero j (by omega)
  · rw [mag_set _ _ _ (by rw [h.len]; exact hi), h.sum, h.zero i (Nat.le_refl _)]
    have e : ds.drop (m - 9) = (ds.take m).drop (m - 9) ++ ds.drop m := by
      have e1 : ds.drop (m - 9) = (ds.take m ++ ds.drop m).drop (m - 9) := by rw [List.take_append_drop]
      rw [e1, List.drop_append_of_le_length (by rw [List.length_take]; have := h.left; omega)]
    rw [e, dval_append, List.length_drop, he, Nat.add_sub_cancel_left, BB_pow]
    generalize dval ((ds.take m).drop (m - 9)) = v
    generalize 10 ^ (9 * i) = p
    rw [Int.natCast_add, Int.natCast_mul, Int.sub_zero]
    omega

theorem bare_len (l : List UInt8) : (bare l).length ≤ l.length := by
  cases l with
  | nil => exact Nat.le_refl _
  | cons c r => rw [bare_cons]; split <;> simp
theorem dval_bare (z : Int) : dval (bare (Lib.itoa z)) = z.natAbs := by rw [bare_itoa, dval_decDigits]
theorem bare_len_fits {z : Int} (h : fits z = true) : (bare (Lib.itoa z)).length ≤ 1024 := by
  rw [bare_itoa, Lib.decDigits_length]; exact fits_iff.1 h
set_option maxRecDepth 100000 in
set_option maxHeartbeats 2000000 in
theorem read_calls (z : Int) (w : World) (hz : fits z = true) :
    Calls Tryz.prog 142 #[.string (T z)] w (NewWide w z) := by
  have HT := Lib.hid (trimPrefix_calls (T z))
  have hlen := bare_len_fits hz
  have hdig : ∀ c ∈ bare (Lib.itoa z), isDig c = true := by rw [bare_itoa]; exact decDigits_dig _
  have hval := dval_bare z
  rw [show (T z).data.toList = Lib.itoa z from rfl] at HT
  have a2 := T_pos z
  have a3 : ((T z)[0]'a2).toNat = 45 ↔ z < 0 := by
    constructor
    · intro h
      rcases Int.lt_or_le z 0 with q | q
      · exact q
      · exact absurd h (T_get_nonneg q a2)
    · intro h; exact T_get_neg h a2
  generalize T z = s at HT a2 a3
  obtain ⟨ds, hds⟩ : ∃ ds, bare (Lib.itoa z) = ds := ⟨_, rfl⟩
  rw [hds] at HT hlen hdig hval
  clear hds hz
  have HD := Lib.hid (And.intro hdig (And.intro hval hlen))
  clear hdig hval
  obtain ⟨p, hp⟩ : ∃ p : Bool, ((((s[0]'a2).toNat : Int)) == 45) = p := ⟨_, rfl⟩
  have HP := Lib.hid (show p = decide (z < 0) by
    rw [← hp, Bool.eq_iff_iff, decide_eq_true_iff, ← a3, beq_iff_eq]; omega)
  clear a3
  go_enter Tryz.func142, Tryz.ntmps142
  go_wp2_with (go_at_call 111; fail)
  generalize hW : w.alloc (.cells (Tryz.zeroCells168.setIfInBounds 0 (.bool p)) 168) = W
  have G0 := Lib.hid (show WideAt W w.heap.size ⟨p, 0, zeroW⟩ ∧ Below w.heap.size w W ∧ w.heap.size < W.heap.size by
    rw [← hW]; exact ⟨wideAt_new w p, (Below.refl _ _).alloc (Nat.le_refl _) _, by simp⟩)
  clear hW
  refine (HT.out _).mono ?_
  rintro e w1 ⟨rfl, rfl⟩
  clear hp
  go_wp2
  go_loopg [3] ds.length (fun k v3 wr => ∃ i ws, v3 = .string (S (ds.take k)) ∧ k ≤ 1024 ∧ i ≤ 114 ∧ Hid (Rd ds k i ws ∧ WideAt wr w.heap.size ⟨p, i, ws⟩ ∧ Below w.heap.size w wr ∧ w.heap.size < wr.heap.size))
  case atStart => exact ⟨0, zeroW, by rw [List.take_length], hlen, by omega, ⟨Rd.start ds, G0.out.1, G0.out.2.1, G0.out.2.2⟩⟩
  case round =>
    obtain ⟨i, ws, rfl, hk, hi, hr⟩ := hrel
    cases gk with
    | zero =>
      have hsz : (S (ds.take 0)).size = 0 := rfl
      generalize S (ds.take 0) = t at hsz
      have HTr := Lib.hid (trimmed_calls w.heap.size ⟨p, i, ws⟩ wr hr.out.2.1 hr.out.1.len (by show i ≤ 232; omega))
      have hfin := Lib.hid (fun w' (h1 : WideAt w' w.heap.size ⟨p, trimN ws i, ws⟩) (h2 : Ch (· = w.heap.size) wr w') => show NewWide w z (.returned (.pointer (some ⟨w.heap.size, 0, none⟩))) w' from
        ⟨w.heap.size, ⟨p, trimN ws i, ws⟩, rfl, Nat.le_refl _, h1, trim_ok hr.out.1.len hr.out.1.ok (by omega) hr.out.1.zero, by
          have h3 := hr.out.1.sum
          rw [List.drop_zero, HD.out.2.1] at h3
          unfold Wide.z Wide.m
          show (if p = true then -mag ws else mag ws) = z
          rw [h3, HP.out]
          by_cases hz : z < 0
          · rw [decide_eq_true hz, if_pos rfl]; omega
          · rw [decide_eq_false hz, if_neg (by decide)]; omega,
         below_ch hr.out.2.2.1 (Nat.le_of_lt hr.out.2.2.2) h2 (fun i hi => by omega)⟩)
      go_wp2_with (go_at_call 168; refine (HTr.out).mono ?_; rintro e w3 ⟨rfl, h1, h2⟩; have G := Lib.hid (hfin.out _ h1 h2); clear h1 h2)
      go_ret
      exact G.out
    | succ m =>
      have hlen1 : (ds.take (m + 1)).length = m + 1 := by rw [List.length_take, Nat.min_eq_left hr.out.1.left]
      have hsz : (S (ds.take (m + 1))).size = m + 1 := by rw [S_size, hlen1]
      have hx1 : (S (ds.take (m + 1))).extract (m + 1 - 9) (m + 1) = S ((ds.take (m + 1)).drop (m + 1 - 9)) := by
        rw [Lib.extract_eq, S_toList]
        show S _ = S _
        rw [S_inj, List.take_of_length_le]
        rw [List.length_drop, hlen1]; exact Nat.le_refl _
      have hx2 : (S (ds.take (m + 1))).extract 0 (m + 1 - 9) = S (ds.take (m + 1 - 9)) := by
        rw [Lib.extract_eq, S_toList]
        show S _ = S _
        rw [S_inj, List.drop_zero, List.take_take]; congr 1; omega
      have hdg : ∀ c ∈ (ds.take (m + 1)).drop (m + 1 - 9), isDig c = true := fun c hc => HD.out.1 c (List.mem_of_mem_take (List.mem_of_mem_drop hc))
      have hA := Lib.hid (atoi_calls (S ((ds.take (m + 1)).drop (m + 1 - 9))) _ (by rw [S_size, List.length_drop, hlen1]; omega) (atoi_dig (l := (ds.take (m + 1)).drop (m + 1 - 9)) (by
        intro h; have := congrArg List.length h; rw [List.length_drop, hlen1] at this; simp at this; omega) hdg))
      have hR := Lib.hid (hr.out.1.step HD.out.1 HD.out.2.2 (by omega))
      have n1 := wideAt_n hr.out.2.1
      have hn1 : wr.cell? ⟨w.heap.size, 1, none⟩ = some (.int .i64 (i : Int)) := n1
      have hi2 : (i : Int) < 232 := by omega
      generalize S (ds.take (m + 1)) = t at hsz hx1 hx2
      obtain ⟨f, hf⟩ : ∃ f, m + 1 - 9 = f := ⟨_, rfl⟩
      rw [hf] at hx1 hx2 hA hR
      have hf1 : f ≤ m + 1 := by omega
      have hf2 : (f : Int) ≤ m + 1 := by omega
      have hf3 : f ≤ 1024 := by omega
      have hmax : max 0 ((m : Int) + 1 - 9) = (f : Int) := by omega
      have hm1 : f < m + 1 := by omega
      have hx3 : t.extract f t.size = S ((ds.take (m + 1)).drop f) := by rw [hsz]; exact hx1
      generalize hv : dval ((ds.take (m + 1)).drop f) = v at hA hR
      clear hv
      generalize S ((ds.take (m + 1)).drop f) = u at hx1 hx3 hA
      clear hdg hlen1 hf
      go_wp2
      clear hmax
      have hF := Lib.hid (fun (w3 : World) (h : Below wr.drew.heap.size wr.drew w3) =>
        have h3 : WideAt w3 w.heap.size ⟨p, i, ws⟩ := wideAt_below (w := wr.drew) hr.out.2.1 h
        show WideAt w3 w.heap.size ⟨p, i, ws⟩ ∧ Below wr.heap.size wr w3 ∧ w3.cell? ⟨w.heap.size, 1, none⟩ = some (.int .i64 (i : Int)) ∧ w3.cell? ⟨w.heap.size, 2 + i, none⟩ = some (.int .i64 0) ∧ w3.frozen? ⟨w.heap.size, 2 + i, none⟩ = false from
          ⟨h3, below_below (pw_below_drewN (Below.refl _ wr) 1) (Nat.le_refl _) h, wideAt_n h3, by rw [wideAt_w h3 i (by rw [hr.out.1.len]; omega), hr.out.1.zero i (Nat.le_refl _)], wideAt_frozen h3 _⟩)
      go_region_held3 (fun W : World => W.cell? ⟨w.heap.size, 1, none⟩ = some (.int .i64 (i : Int))) (first | exact n1 | exact c1 | exact wideAt_n (wideAt_set_w G3.out.1 i (v : Int))) (first | (go_at_call 167; refine (hA.out _).mono ?_; rintro e w3 ⟨rfl, hw3⟩; have G3 := Lib.hid (hF.out w3 hw3); have c1 := G3.out.2.2.1; have c2 := G3.out.2.2.2.1; have f2 := G3.out.2.2.2.2; clear hw3))
      have g1 := wideAt_frozen G3.out.1 1
      have R4 := Lib.hid (show WideAt ((w3.setCell ⟨w.heap.size, 2 + i, none⟩ (.int .i64 v)).setCell ⟨w.heap.size, 1, none⟩ (.int .i64 ((i : Int) + 1))) w.heap.size ⟨p, i + 1, ws.set i v⟩ from
        wideAt_set_n (x := ⟨p, i, ws.set i v⟩) (wideAt_set_w G3.out.1 i v) (i + 1))
      clear hx1 hx3 hA hF n1 hn1 c2
      go_wp2
      go_roundg f
      case measure => exact hm1
      case rel =>
        refine ⟨i + 1, ws.set i v, rfl, hf3, ?_, ⟨hR.out, R4.out, ?_, ?_⟩⟩
        · have := hR.out.num; omega
        · exact ((below_below hr.out.2.2.1 (Nat.le_of_lt hr.out.2.2.2) G3.out.2.1).setCell (p := ⟨w.heap.size, 2 + i, none⟩) (Nat.le_refl _) _).setCell (p := ⟨w.heap.size, 1, none⟩) (Nat.le_refl _) _
        · have h5 := G3.out.2.1.size
          have h6 := hr.out.2.2.2
          simp; omega
end Go.Proofs.YtdkfebfedfemaaaGreatDoor
