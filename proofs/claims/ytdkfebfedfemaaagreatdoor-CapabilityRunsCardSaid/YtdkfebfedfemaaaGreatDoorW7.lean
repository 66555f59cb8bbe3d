/- divided: the quotient and the remainder of magnitudes. -/
import Derived.Test.YtdkfebfedfemaaaGreatDoorW6
import Derived.Laws.CopyOwn
set_option linter.unusedVariables false
set_option linter.unusedSimpArgs false
namespace Go.Proofs.YtdkfebfedfemaaaGreatDoor
open Go.RowKit Go.Mlab

theorem addr_add (g o j : Nat) : (⟨g, o, none⟩ : Addr).add j = ⟨g, o + j, none⟩ := by unfold Addr.add; split <;> simp_all
theorem size_int : (Tryz.prog.info? 3).map (·.size) = some 1 := by kernel_rfl
/-- The cells behind the copy by which the remainder goes one word up, and its lowest word stored. -/
theorem splice_wide (r : Wide) (hl : r.ws.length = 232) (hn : r.n ≤ 231) :
    splice (wideCells r) 3 ((r.ws.take r.n).map (Value.int .i64)) = wideCells ⟨r.less, r.n, r.ws.getD 0 0 :: (r.ws.take r.n ++ r.ws.drop (r.n + 1))⟩ := by
  obtain ⟨a, t, e⟩ : ∃ a t, r.ws = a :: t := by
    cases h : r.ws with
    | nil => rw [h] at hl; simp at hl
    | cons a t => exact ⟨a, t, rfl⟩
  unfold splice wideCells
  rw [e]
  simp only [List.map_cons, List.length_map, List.length_take, List.getD_cons_zero]
  have h1 : (a :: t).length = 232 := by rw [← e]; exact hl
  rw [h1, Nat.min_eq_left (by omega)]
  simp only [List.take_succ_cons, List.take_zero, List.cons_append, List.nil_append, List.map_append, List.map_take, List.map_drop, List.map_cons]
  rw [show 3 + r.n = r.n + 3 by omega]
  simp only [List.drop_succ_cons]

set_option maxRecDepth 100000 in
theorem wideAt_new0 (w : World) : WideAt (w.alloc (.cells Tryz.zeroCells168 168)) w.heap.size ⟨false, 0, zeroW⟩ := by
  have e : Tryz.zeroCells168 = newArr false := by kernel_rfl
  rw [e]
  exact alloc_new w _
theorem pw_below_drewN {B : Nat} {w W : World} (h : Below B w W) (n : Nat) : Below B w (W.drewN n) := ⟨h.os, h.tape, h.output, h.size, h.block⟩
theorem div_t_n {y r r4 t : Wide} (ly : WideOk y) (lt : WideOk t) {v d : Int} (hv : wordOk v) (hr : r.m < y.m) (e4 : r4.m = v + 1000000000 * r.m) (e : t.m + d * y.m = r4.m) (hd : 0 ≤ d) : t.n ≤ y.n + 1 := by
  refine lt.n_le ?_
  rw [BB_succ]
  have h1 := ly.lt
  have h2 : 0 ≤ d * y.m := Int.mul_nonneg hd ly.nonneg
  unfold wordOk at hv
  omega

def DivPost (x y : Wide) (w : World) (e : Ending) (w' : World) : Prop :=
  ∃ bq br : Nat, ∃ q r : Wide, e = .returned (.tuple #[.pointer (some ⟨bq, 0, none⟩), .pointer (some ⟨br, 0, none⟩)]) ∧ w.heap.size ≤ bq ∧ w.heap.size ≤ br ∧ bq ≠ br ∧ WideAt w' bq q ∧ WideAt w' br r ∧
    WideOk q ∧ WideOk r ∧ q.less = false ∧ r.less = false ∧ x.m = q.m * y.m + r.m ∧ r.m < y.m ∧ Below w.heap.size w w'

set_option maxRecDepth 100000 in
set_option maxHeartbeats 1000000 in
theorem divided_calls (b c : Nat) (x y : Wide) (w : World) (hx : WideAt w b x) (hy : WideAt w c y) (lx : WideOk x) (ly : WideOk y) (h0 : y.n ≠ 0) (hy2 : y.n ≤ 230) :
    Calls Tryz.prog 164 #[.pointer (some ⟨b, 0, none⟩), .pointer (some ⟨c, 0, none⟩)] w (DivPost x y w) := by
  have x1 := wideAt_n hx
  have bl := wideAt_lt hx
  have cl := wideAt_lt hy
  have nx := lx.le
  have ypos : 0 < y.m := by have := ly.ge h0; have := BB_pos (y.n - 1); omega
  have HX := Lib.hid (And.intro hx (And.intro hy (And.intro lx (And.intro ly (And.intro h0 (And.intro hy2 ypos))))))
  clear hx hy lx ly h0 hy2 ypos
  obtain ⟨nn, hnn⟩ : ∃ nn, x.n = nn := ⟨_, rfl⟩
  rw [hnn] at x1 nx
  have Hnn := Lib.hid hnn
  clear hnn
  go_enter Tryz.func164, Tryz.ntmps164
  go_wp2
  go_loopg [8] nn (fun k v8 wr => ∃ (i : Int) (q r : Wide), v8 = .int .i64 i ∧ i + 1 = k ∧ k ≤ nn ∧ Hid (WideAt wr w.heap.size q ∧ WideAt wr (w.heap.size + 1) r ∧ WideOk r ∧ Div x.ws y.m k q.ws q.n r.m ∧ q.less = false ∧ r.less = false ∧ Below w.heap.size w wr ∧ w.heap.size + 1 < wr.heap.size))
  case atStart =>
    refine ⟨_, ⟨false, 0, zeroW⟩, ⟨false, 0, zeroW⟩, rfl, by omega, Nat.le_refl _, ⟨?_, ?_, wideOk_zero _, ?_, rfl, rfl, ?_, by simp⟩⟩
    · have h1 := wideAt_new0 w
      exact wideAt_alloc h1 _
    · have h1 := wideAt_new0 (w.alloc (.cells Tryz.zeroCells168 168))
      simpa using h1
    · refine ⟨zeroW_len, zeroW_ok, Nat.zero_le _, fun i _ => zeroW_at i, ?_, ?_, ?_⟩
      · rw [zeroW_m]; exact Int.le_refl _
      · rw [zeroW_m]; exact HX.out.2.2.2.2.2.2
      · have e1 : mag (x.ws.drop nn) = 0 := mag_drop_zero _ (fun i => by
          have := HX.out.2.2.1.zero (nn + i) (by rw [Hnn.out]; omega)
          rw [List.getD_eq_getElem?_getD, List.getElem?_drop]; rw [List.getD_eq_getElem?_getD] at this; exact this)
        have e2 : mag (zeroW.drop nn) = 0 := mag_drop_zero _ (fun i => by
          have := zeroW_at (nn + i)
          rw [List.getD_eq_getElem?_getD, List.getElem?_drop]; rw [List.getD_eq_getElem?_getD] at this; exact this)
        rw [zeroW_m, e1, e2]; omega
    · exact ((Below.refl _ _).alloc (Nat.le_refl _) _).alloc (by simp) _
  case round =>
    obtain ⟨i, q, r, rfl, hi, hk, hr⟩ := hrel
    cases gk with
    | zero =>
      obtain rfl : i = -1 := by omega
      clear hi
      have qlen := hr.out.2.2.2.1.len
      have hs := hr.out.2.2.2.1
      have HT := Lib.hid (trimmed_calls w.heap.size q wr hr.out.1 hs.len hs.le)
      have hq : WideOk { q with n := trimN q.ws q.n } := trim_ok hs.len hs.ok hs.le hs.zero
      have hm : x.m = ({ q with n := trimN q.ws q.n } : Wide).m * y.m + r.m := by
        have := hs.sum
        rw [List.drop_zero, List.drop_zero] at this
        exact this
      have hfin := Lib.hid (fun w' (h1 : WideAt w' w.heap.size { q with n := trimN q.ws q.n }) (h2 : Ch (· = w.heap.size) wr w') => show DivPost x y w (.returned (.tuple #[.pointer (some ⟨w.heap.size, 0, none⟩), .pointer (some ⟨w.heap.size + 1, 0, none⟩)])) w' from
        ⟨_, _, { q with n := trimN q.ws q.n }, r, rfl, Nat.le_refl _, by omega, by omega, h1, wideAt_ch hr.out.2.1 h2 (by omega), hq, hr.out.2.2.1, hr.out.2.2.2.2.1, hr.out.2.2.2.2.2.1, hm, hs.r1, below_ch hr.out.2.2.2.2.2.2.1 (by have := hr.out.2.2.2.2.2.2.2; omega) h2 (fun i hi => by omega)⟩)
      clear qlen hs hq hm
      go_wp2_with (go_at_call 168; refine (HT.out).mono ?_; rintro e w3 ⟨rfl, h1, h2⟩; have G := Lib.hid (hfin.out _ h1 h2); clear h1 h2)
      go_ret2
      exact G.out
    | succ m =>
      obtain rfl : i = (m : Int) := by omega
      clear hi
      have rn := hr.out.2.2.1.n_le (k := y.n) (Int.lt_trans hr.out.2.2.2.1.r1 HX.out.2.2.2.1.lt)
      have rl : r.n ≤ 230 := Nat.le_trans rn HX.out.2.2.2.2.2.1
      have r1 := wideAt_n hr.out.2.1
      have rlen := hr.out.2.2.1.len
      have Hr := Lib.hid (show wr.heap[w.heap.size + 1]? = some (.cells (wideCells r).toArray 168 (0, 0)) from hr.out.2.1)
      have RL := Lib.hid rlen
      clear rn rlen
      obtain ⟨rn, hrn⟩ : ∃ rn, r.n = rn := ⟨_, rfl⟩
      rw [hrn] at rl r1
      have Hrn := Lib.hid hrn
      clear hrn
      have rl2 : (rn : Int) ≤ 232 := by omega
      have hm1 : m < 232 := by omega
      have hm2 : (m : Int) < 232 := by omega
      have rl3 : rn ≤ 232 := by omega
      go_wp2
      go_still_tail 12, (by kernel_rfl)
      change wpList _ _ _ _ _ wr.drew
      refine wpList_copy_splice rfl (.tmp 27) (.tmp 35) 22 22 rfl 3 Tryz.underlying22 size_int (some ⟨w.heap.size + 1, 3, none⟩) (some ⟨w.heap.size + 1, 2, none⟩) 231 231 rn 232 rfl rfl (w.heap.size + 1) 3 (wideCells r) 168 Hr.out ((r.ws.take rn).map (Value.int .i64)) (by rw [List.length_map, List.length_take, RL.out]; show min rn 232 = min rn 231; omega)
        (fun _ => ⟨rfl, _, rfl, fun j v hv => ?_⟩) (by rw [List.length_map, List.length_take, RL.out]; simp only [wideCells, List.length_cons, List.length_map, RL.out]; omega) (fun v hv => ?_) (w.heap.size + 1) wr.drew (Below.refl _ _) (Nat.le_refl _) ?_
      · have hj : j < rn := by
          rcases Nat.lt_or_ge j rn with h | h
          · exact h
          · rw [List.getElem?_map, List.getElem?_eq_none (by rw [List.length_take]; omega)] at hv; cases hv
        have e : (⟨w.heap.size + 1, 2, none⟩ : Addr).add j = ⟨w.heap.size + 1, 2 + j, none⟩ := addr_add _ _ _
        rw [e, show wr.drew.cell? ⟨w.heap.size + 1, 2 + j, none⟩ = wr.cell? ⟨w.heap.size + 1, 2 + j, none⟩ from rfl, wideAt_w hr.out.2.1 j (by rw [RL.out]; omega)]
        rw [List.getElem?_map, List.getElem?_take_of_lt hj, List.getElem?_eq_getElem (by rw [RL.out]; omega)] at hv
        rw [List.getD_eq_getElem?_getD, List.getElem?_eq_getElem (by rw [RL.out]; omega)]
        exact hv
      · obtain ⟨a, _, rfl⟩ := List.mem_map.1 hv
        rfl
      · intro w2 HG2 hB2
        have hr2 : WideAt w2 (w.heap.size + 1) ⟨r.less, rn, r.ws.getD 0 0 :: (r.ws.take rn ++ r.ws.drop (rn + 1))⟩ := by
          have h1 := HG2.out
          have h2 := splice_wide r RL.out (by rw [Hrn.out]; omega)
          rw [Hrn.out] at h2
          rw [h2] at h1
          exact h1
        have hq2 : WideAt w2 w.heap.size q := (hB2.block w.heap.size (by omega)).trans hr.out.1
        have hb2 : Below w.heap.size w w2 := hr.out.2.2.2.2.2.2.1.trans (show Below w.heap.size wr w2 from ⟨hB2.os, hB2.tape, hB2.output, hB2.size, fun k hk => hB2.block k (by omega)⟩)
        have hs2 : w.heap.size + 1 < w2.heap.size := Nat.lt_of_lt_of_le hr.out.2.2.2.2.2.2.2 hB2.size
        have rn2 := wideAt_n hr2
        have xm2 := (hb2.cell (p := ⟨b, 2 + m, none⟩) bl).trans (wideAt_w HX.out.1 m (by rw [HX.out.2.2.1.len]; omega))
        obtain ⟨old, hold⟩ : ∃ old : Int, w2.cell? ⟨w.heap.size + 1, 2, none⟩ = some (.int .i64 old) := ⟨_, by rw [wideAt_cell hr2]; rfl⟩
        have f1 := wideAt_frozen hr2 1
        have f2 := wideAt_frozen hr2 2
        have wx := wordsOk_get HX.out.2.2.1.ok m
        obtain ⟨v, hv⟩ : ∃ v, x.ws.getD m 0 = v := ⟨_, rfl⟩
        rw [hv] at xm2 wx
        have G2 := Lib.hid (And.intro hr2 (And.intro hq2 (And.intro hb2 (And.intro hs2 (And.intro wx hv)))))
        clear hr2 hq2 hb2 hs2 HG2 hB2 wx hv
        go_wp2
        go_still_tail 10, (by kernel_rfl)
        change wpList _ _ _ _ _ w2.drew
        have R3 := Lib.hid (show WideAt ((w2.setCell ⟨w.heap.size + 1, 2, none⟩ (.int .i64 v)).setCell ⟨w.heap.size + 1, 1, none⟩ (.int .i64 ((rn : Int) + 1))) (w.heap.size + 1) ⟨r.less, rn + 1, shifted r.ws rn v⟩ from
          wideAt_set_n (x := ⟨r.less, rn, shifted r.ws rn v⟩) (wideAt_set G2.out.1 2 (.int .i64 v) rfl) (rn + 1))
        have HT := Lib.hid (trimmed_calls (w.heap.size + 1) ⟨r.less, rn + 1, shifted r.ws rn v⟩ (((w2.setCell ⟨w.heap.size + 1, 2, none⟩ (.int .i64 v)).setCell ⟨w.heap.size + 1, 1, none⟩ (.int .i64 ((rn : Int) + 1))).drew) R3.out (shifted_len RL.out (by omega)) (show rn + 1 ≤ 232 by omega))
        go_wp2_with (go_at_call 168; fail)
        refine (HT.out).mono ?_
        rintro e w3 ⟨rfl, h1, h2⟩
        obtain ⟨r4, hr4⟩ : ∃ r4 : Wide, r4 = ⟨r.less, trimN (shifted r.ws rn v) (rn + 1), shifted r.ws rn v⟩ := ⟨_, rfl⟩
        rw [← hr4] at h1
        have ok4 : WideOk r4 := by rw [hr4]; exact trim_ok (shifted_len RL.out (by omega)) (shifted_ok hr.out.2.2.1.ok G2.out.2.2.2.2.1) (by omega) (shifted_zero RL.out (by omega) (fun i hi => hr.out.2.2.1.zero i (by rw [Hrn.out]; exact hi)))
        have m4 : r4.m = x.ws.getD m 0 + 1000000000 * r.m := by rw [hr4, G2.out.2.2.2.2.2]; exact shifted_m (fun i hi => hr.out.2.2.1.zero i (by rw [Hrn.out]; exact hi))
        have l4 : r4.less = false := by rw [hr4]; exact hr.out.2.2.2.2.2.1
        have q4 : WideAt w3 w.heap.size q := wideAt_ch (wideAt_drew (wideAt_far (wideAt_far G2.out.2.1 ⟨w.heap.size + 1, 2, none⟩ (by show w.heap.size ≠ w.heap.size + 1; omega) _) ⟨w.heap.size + 1, 1, none⟩ (by show w.heap.size ≠ w.heap.size + 1; omega) _)) h2 (by omega)
        have hb4 : Below w.heap.size w w3 := below_ch (((G2.out.2.2.1.setCell (p := ⟨w.heap.size + 1, 2, none⟩) (by show w.heap.size ≤ w.heap.size + 1; omega) _).setCell (p := ⟨w.heap.size + 1, 1, none⟩) (by show w.heap.size ≤ w.heap.size + 1; omega) _).drew) (by simp; have := G2.out.2.2.2.1; omega) h2 (fun i hi => by omega)
        have hs4 : w.heap.size + 1 < w3.heap.size := by have h5 := h2.size; have h6 := G2.out.2.2.2.1; simp at h5; omega
        have G4 := Lib.hid (And.intro h1 (And.intro ok4 (And.intro m4 (And.intro l4 (And.intro q4 (And.intro hb4 hs4))))))
        clear h1 h2 ok4 m4 l4 q4 hb4 hs4 hr4 R3 HT
        clear rn2 hold f1 f2 xm2
        go_wp2
        go_loopg [9] r4.m.toNat (fun k v9 wq => ∃ (d : Int) (t : Wide), v9 = .int .i64 d ∧ 0 ≤ d ∧ d < 1000000000 ∧ Hid (k = t.m.toNat ∧ WideAt wq w.heap.size q ∧ WideAt wq (w.heap.size + 1) t ∧ WideOk t ∧ t.less = false ∧ t.m + d * y.m = r4.m ∧ Below w.heap.size w wq ∧ w.heap.size + 1 < wq.heap.size))
        case atStart => exact ⟨0, r4, rfl, Int.le_refl _, by decide, ⟨rfl, G4.out.2.2.2.2.1, G4.out.1, G4.out.2.1, G4.out.2.2.2.1, by omega, G4.out.2.2.2.2.2.1, G4.out.2.2.2.2.2.2⟩⟩
        case round =>
          obtain ⟨d, t, rfl, hd0, hd1, ht⟩ := hrel
          have yq : WideAt wr c y := (ht.out.2.2.2.2.2.2.1.block c cl).trans HX.out.2.1
          have hB := Lib.hid (beyond_calls (w.heap.size + 1) c t y wr ht.out.2.2.1 yq ht.out.2.2.2.1 HX.out.2.2.2.1)
          by_cases hle : y.m ≤ t.m
          · have htn := div_t_n HX.out.2.2.2.1 ht.out.2.2.2.1 G2.out.2.2.2.2.1 hr.out.2.2.2.1.r1 (by rw [← G2.out.2.2.2.2.2]; exact G4.out.2.2.1) ht.out.2.2.2.2.2.1 hd0
            have hE := Lib.hid (fun n => estimate_calls (w.heap.size + 1) c t y (World.drewN wr n) ht.out.2.2.1 yq ht.out.2.2.2.1 HX.out.2.2.2.1 HX.out.2.2.2.2.1 HX.out.2.2.2.2.2.1 hle htn)
            have hC := Lib.hid (fun n k (h1 : 1 ≤ k) (h2 : k ≤ 999999999) (h3 : k * y.m ≤ t.m) => carry_calls (w.heap.size + 1) c t y (-k) 0 (World.drewN wr n) (by omega) ht.out.2.2.1 yq ht.out.2.2.2.1.loose HX.out.2.2.2.1.loose (by have := HX.out.2.2.2.2.2.1; omega) (by omega) (by omega)
              (by rw [BB_zero, Int.one_mul, Int.neg_mul]; omega) (by rw [BB_zero, Int.one_mul, Int.neg_mul]; have h4 : 0 ≤ k * y.m := Int.mul_nonneg (by omega) HX.out.2.2.2.1.nonneg; have h5 := ht.out.2.2.2.1.lt; have h6 := BB_mono ht.out.2.2.2.1.le; omega))
            have HL := Lib.hid hle
            clear hle yq htn
            go_wp2_with (go_at_call 186; refine (hB.out).mono ?_; rintro e w1 ⟨d2, rfl, hd2, nq, rfl⟩; have hd3 := hd2.2 HL.out; clear hd2)
            go_wp2_with (go_at_call 187; refine (hE.out _).mono ?_; rintro e w1 ⟨k, rfl, hk1, hk2, hk3, nq2, rfl⟩; have HK := Lib.hid hk3; clear hk3)
            go_wp2_with (go_at_call 169; refine (hC.out _ k hk1 hk2 HK.out).mono ?_; rintro e w1 ⟨rfl, t2, h1, h2, h3, h4, h5⟩; have G5 := Lib.hid (And.intro h1 (And.intro h2 (And.intro h3 (And.intro h4 h5)))); clear h1 h2 h3 h4 h5)
            have e5 : t2.m + (d + k) * y.m = r4.m := by
              have h6 := G5.out.2.2.2.1
              have h7 := ht.out.2.2.2.2.2.1
              rw [BB_zero, Int.one_mul, Int.neg_mul] at h6
              rw [Int.add_mul]; omega
            have d5 : d + k < 1000000000 := digit_lt (xm := v) (rm := r.m) (ym := y.m) (r := t2.m) (by rw [e5, G4.out.2.2.1, G2.out.2.2.2.2.2]) G2.out.2.2.2.2.1.2 G5.out.2.1.nonneg hr.out.2.2.2.1.r1 HX.out.2.2.2.1.nonneg
            have m5 : t2.m.toNat < gk := by
              have h6 := G5.out.2.2.2.1
              have h8 := HX.out.2.2.2.2.2.2
              have h9 : 1 * y.m ≤ k * y.m := Int.mul_le_mul_of_nonneg_right hk1 (by omega)
              have h10 := G5.out.2.1.nonneg
              have h11 := ht.out.1
              rw [BB_zero, Int.one_mul, Int.neg_mul] at h6
              omega
            have G6 := Lib.hid (And.intro e5 m5)
            clear e5 m5
            go_roundg t2.m.toNat
            case measure => exact G6.out.2
            case rel =>
              refine ⟨d + k, t2, by go_num, by omega, d5, ⟨rfl, wideAt_ch (wideAt_drewN ht.out.2.1 _) G5.out.2.2.2.2 (by omega), G5.out.1, G5.out.2.1, G5.out.2.2.1.trans ht.out.2.2.2.2.1, G6.out.1, ?_, ?_⟩⟩
              · exact below_ch (pw_below_drewN ht.out.2.2.2.2.2.2.1 _) (Nat.le_of_lt (Nat.lt_of_succ_lt ht.out.2.2.2.2.2.2.2)) G5.out.2.2.2.2 (fun i hi => by omega)
              · exact Nat.lt_of_lt_of_le ht.out.2.2.2.2.2.2.2 G5.out.2.2.2.2.size
          · have hlt : t.m < y.m := by omega
            have hst := Lib.hid (Div.step (d := d) (r := t.m) hr.out.2.2.2.1 HX.out.2.2.1.len (by omega) ht.out.2.2.2.1.nonneg hlt hd0 hd1 (by rw [ht.out.2.2.2.2.2.1]; exact G4.out.2.2.1))
            have HL := Lib.hid hlt
            clear hle hlt yq
            have q1 := wideAt_n ht.out.2.1
            have q2 := wideAt_w ht.out.2.1 m (by rw [hr.out.2.2.2.1.len]; omega)
            have g1 := wideAt_frozen ht.out.2.1 1
            have g2 := wideAt_frozen ht.out.2.1 (2 + m)
            generalize q.ws.getD m 0 = old2 at q2
            have qn := hr.out.2.2.2.1.le
            have Hq := Lib.hid (show WideAt wr w.heap.size q from ht.out.2.1)
            generalize hqn : q.n = kn at q1 qn
            have Hqn := Lib.hid hqn
            clear hqn
            have G7 := Lib.hid (fun (mx : Int) (nq : Nat) (h : mx = ((max kn (m + 1) : Nat) : Int)) => show WideAt ((((World.drewN wr nq).setCell ⟨w.heap.size, 2 + m, none⟩ (.int .i64 d)).setCell ⟨w.heap.size, 1, none⟩ (.int .i64 mx))) w.heap.size ⟨q.less, max kn (m + 1), q.ws.set m d⟩ from by
              rw [h]; exact wideAt_set_n (x := ⟨q.less, q.n, q.ws.set m d⟩) (wideAt_set_w (wideAt_drewN Hq.out nq) m d) (max kn (m + 1)))
            go_wp2_with (go_at_call 186; refine (hB.out).mono ?_; rintro e w1 ⟨d2, rfl, hd2, nq, rfl⟩; have hd3 : ¬ 0 ≤ d2 := (by intro h; have h1 := hd2.1 h; have h2 := HL.out; omega); clear hd2)
            all_goals
              go_roundg m
              case measure => omega
              case rel =>
                refine ⟨(m : Int) - 1, ⟨q.less, max kn (m + 1), q.ws.set m d⟩, t, rfl, by omega, by omega, ⟨?_, ?_, ht.out.2.2.2.1, ?_, hr.out.2.2.2.2.1, ht.out.2.2.2.2.1, ?_, ?_⟩⟩
                · exact G7.out _ _ (by omega)
                · exact wideAt_drewN (wideAt_far (wideAt_far ht.out.2.2.1 ⟨w.heap.size, 2 + m, none⟩ (by show w.heap.size + 1 ≠ w.heap.size; omega) _) ⟨w.heap.size, 1, none⟩ (by show w.heap.size + 1 ≠ w.heap.size; omega) _) _
                · have := hst.out
                  rw [Hqn.out] at this
                  exact this
                · exact pw_below_drewN ((ht.out.2.2.2.2.2.2.1.setCell (p := ⟨w.heap.size, 2 + m, none⟩) (Nat.le_refl _) _).setCell (p := ⟨w.heap.size, 1, none⟩) (Nat.le_refl _) _) _
                · simpa using ht.out.2.2.2.2.2.2.2
end Go.Proofs.YtdkfebfedfemaaaGreatDoor
