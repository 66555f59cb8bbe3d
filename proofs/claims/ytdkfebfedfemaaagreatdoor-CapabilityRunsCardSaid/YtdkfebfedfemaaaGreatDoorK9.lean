/- capability: Runs. -/
import Derived.Test.YtdkfebfedfemaaaGreatDoorK8
set_option linter.unusedVariables false
set_option linter.unusedSimpArgs false
namespace Go.Proofs.YtdkfebfedfemaaaGreatDoor
open Go.RowKit Go.Mlab Go.Shelf
attribute [local go_sem] Oper.semAt_some

def sgn (lo hi v : Int) : Int := Lib.compareInt (2 * v) (lo + hi)
theorem sgn_cases (lo hi v : Int) : sgn lo hi v = -1 ∨ sgn lo hi v = 0 ∨ sgn lo hi v = 1 := by
  unfold sgn Lib.compareInt; split
  · simp
  · split <;> simp
def runStep (lo hi : Int) (st : Int × List Int) (v : Int) : Int × List Int :=
  if 0 < sgn lo hi v * st.1 then (st.1 + sgn lo hi v, st.2) else (sgn lo hi v, if st.1 = 0 then st.2 else st.2 ++ [st.1])
def runFold (lo hi : Int) (xs : List Int) : Int × List Int := xs.foldl (runStep lo hi) (0, [])
def runsL (lo hi : Int) (xs : List Int) : List Int := if (runFold lo hi xs).1 = 0 then (runFold lo hi xs).2 else (runFold lo hi xs).2 ++ [(runFold lo hi xs).1]
theorem runFold_snoc (lo hi : Int) (xs : List Int) (v : Int) : runFold lo hi (xs ++ [v]) = runStep lo hi (runFold lo hi xs) v := by
  unfold runFold; rw [List.foldl_append]; rfl
theorem run_abs {s r : Int} (hs : s = -1 ∨ s = 0 ∨ s = 1) (h : 0 < s * r) : (r + s).natAbs = r.natAbs + 1 := by
  rcases hs with rfl | rfl | rfl <;> omega
def RunBd (m : Nat) (st : Int × List Int) : Prop := st.1.natAbs ≤ m ∧ st.2.length ≤ m ∧ (st.1 ≠ 0 → st.2.length + 1 ≤ m)
theorem runStep_bd (lo hi v : Int) {m : Nat} {st : Int × List Int} (ih : RunBd m st) : RunBd (m + 1) (runStep lo hi st v) := by
  obtain ⟨r, out⟩ := st
  have hs := sgn_cases lo hi v
  unfold runStep
  unfold RunBd at ih ⊢
  dsimp only at ih ⊢
  split
  · rename_i h
    have := run_abs hs h
    dsimp only
    refine ⟨by omega, by omega, fun _ => ?_⟩
    have : r ≠ 0 := by intro e; subst e; simp at h
    have := ih.2.2 this
    omega
  · dsimp only
    split
    · refine ⟨?_, by omega, fun _ => by omega⟩
      rcases hs with e | e | e <;> rw [e] <;> simp
    · rename_i h0
      have := ih.2.2 h0
      rw [List.length_append, List.length_singleton]
      refine ⟨?_, by omega, fun _ => by omega⟩
      rcases hs with e | e | e <;> rw [e] <;> simp
theorem foldl_bd (lo hi : Int) : ∀ (xs : List Int) (m : Nat) (st : Int × List Int), RunBd m st → RunBd (m + xs.length) (xs.foldl (runStep lo hi) st)
  | [], m, st, h => h
  | v :: xs, m, st, h => by
    have := foldl_bd lo hi xs (m + 1) _ (runStep_bd lo hi v h)
    rw [List.length_cons, show m + (xs.length + 1) = m + 1 + xs.length by omega]
    exact this
theorem runFold_bd (lo hi : Int) (xs : List Int) : (runFold lo hi xs).1.natAbs ≤ xs.length ∧ (runFold lo hi xs).2.length ≤ xs.length ∧ ((runFold lo hi xs).1 ≠ 0 → (runFold lo hi xs).2.length + 1 ≤ xs.length) := by
  have := foldl_bd lo hi xs 0 (0, []) ⟨by simp, by simp, by simp⟩
  rw [Nat.zero_add] at this
  exact this
theorem mul_bd {s r k : Int} (hs : s = -1 ∨ s = 0 ∨ s = 1) (h : -k ≤ r ∧ r ≤ k) (hk : 0 ≤ k) : -k ≤ s * r ∧ s * r ≤ k := by
  rcases hs with rfl | rfl | rfl <;> omega

set_option maxRecDepth 100000 in
set_option maxHeartbeats 4000000 in
theorem runs1_in (n : Nat) (hn : 1 ≤ n) (l Bs Bx n0 : Nat) (A : Option Addr) (cap len : Nat) (xs : List Int) (lo hi : Int) (hlen : xs.length = len) (hbig : len ≤ 1000000) (hlh : -1048576 ≤ lo ∧ lo ≤ 1048576 ∧ -1048576 ≤ hi ∧ hi ≤ 1048576) (hv : ∀ x ∈ xs, -1048576 ≤ x ∧ x ≤ 1048576) (J Jx : List Int → World → Prop)
    (hY : ∀ pre x W, J pre W → pre.length < len + 1 → YieldAt Fence.wide (n - 1) Tryz.prog l #[.int .i64 x] W fun e W' =>
      (e = .returned (.bool true) ∧ J (pre ++ [x]) W' ∧ Below n0 W W') ∨ (e = .returned (.bool false) ∧ Jx (pre ++ [x]) W'))
    (W : World) (hBs : W.cell? ⟨Bs, 0, none⟩ = some (.slice A len cap)) (hBx : Bx < n0) (hx0 : W.cell? ⟨Bx, 0, none⟩ = some (.int .i64 lo)) (hx1 : W.cell? ⟨Bx, 1, none⟩ = some (.int .i64 hi)) (hI : IntsIn n0 W A xs) (h0 : J [] W) :
    CallsIn Fence.wide n Tryz.prog 96 #[.func (.yield l) #[] #[], .pointer (some ⟨Bs, 0, none⟩), .pointer (some ⟨Bx, 0, none⟩)] W fun e W' => (∃ v, e = .returned v) ∧
      ((∃ ys, ys = runsL lo hi xs ∧ J ys W') ∨ (∃ pre : List Int, True ∧ Jx pre W')) := by
  have Hn := Lib.hid hlen
  have HI := Lib.hid (And.intro hI (And.intro hx0 hx1))
  have HV := Lib.hid hv
  clear hlen hI hv hx0 hx1
  have HC := Lib.hid (fun v w => show Calls Tryz.prog 58 #[.int .i64 (2 * v), .int .i64 (lo + hi)] w fun e w' => e = .returned (.int .i64 (sgn lo hi v)) ∧ w' = w from cmp_Compare_int (2 * v) (lo + hi) w)
  refine callsIn_of_wp Tryz.func96 rfl trivial ?_ rfl
  simp only [Tryz.ntmps96, List.size_toArray, List.length_cons, List.length_nil, Nat.reduceAdd, Nat.reduceSub, Array.replicate_succ, Array.replicate_zero, List.push_toArray, List.append_toArray, List.nil_append, List.cons_append]
  gi_wp2
  gi_loopw [4, 10] (fun v4 i wr => ∃ k : Nat, k ≤ len ∧ i = .int .i64 k ∧ v4 = .int .i64 (runFold lo hi (xs.take k)).1 ∧ J (runFold lo hi (xs.take k)).2 wr ∧ Below n0 W wr)
    (fun _ i _ => len - (intOf i).toNat)
  case atStart => exact ⟨0, Nat.zero_le _, rfl, rfl, h0, Below.refl _ _⟩
  case round =>
    obtain ⟨k, hk, rfl, rfl, hJs, hnx⟩ := hrel
    have hbd := runFold_bd lo hi (xs.take k)
    have hx0 := (hnx.cell (p := ⟨Bx, 0, none⟩) hBx).trans HI.out.2.1
    have hx1 := (hnx.cell (p := ⟨Bx, 1, none⟩) hBx).trans HI.out.2.2
    have htl : (xs.take k).length ≤ k := List.length_take_le _ _
    by_cases hlt : k < len
    · obtain ⟨b, o, rfl, hb, hcx⟩ := (HI.out.1.below hnx).get (i := k) (by rw [Hn.out]; exact hlt)
      have hsn := runFold_snoc lo hi (xs.take k) (xs[k]?.getD 0)
      rw [← take_snoc' (by rw [Hn.out]; exact hlt)] at hsn
      have HS := Lib.hid hsn
      have hvb := HV.out (xs[k]?.getD 0) (by rw [List.getElem?_eq_getElem (by rw [Hn.out]; exact hlt)]; exact List.getElem_mem _)
      clear hsn
      generalize xs[k]?.getD 0 = v at *
      have HCv := Lib.hid (HC.out v)
      generalize hst : runFold lo hi (xs.take k) = st at *
      obtain ⟨r, out⟩ := st
      clear hst
      dsimp only at hJs hbd ⊢
      have hs := sgn_cases lo hi v
      unfold runStep at HS
      generalize sgn lo hi v = s at *
      dsimp only at HS
      have hrb : -1000000 ≤ r ∧ r ≤ 1000000 := by omega
      have hmb := mul_bd hs hrb (by omega)
      have hw1 : IntKind.i64.wrap (s * r) = s * r := Go.IntWalk.i64_in _ ⟨by omega, by omega⟩
      have hsb : -1 ≤ s ∧ s ≤ 1 := by omega
      clear hs
      by_cases hp : 0 < s * r
      · rw [if_pos hp] at HS
        have hab := hbd.1
        clear hbd
        gi_wp2_with (refine ⟨trivial, ?_⟩; gi_at_call 58; refine (callsIn_wide.2 (HCv.out _)).mono ?_; rintro e w' ⟨rfl, rfl⟩)
        go_roundw
        case rel => exact ⟨k + 1, by omega, by simp, by rw [HS.out], by rw [HS.out]; exact hJs, hnx⟩
        case measure => simp [intOf]; omega
      · rw [if_neg hp] at HS
        have hp2 : s * r ≤ 0 := by omega
        clear hp
        by_cases hr0 : r = 0
        · subst hr0
          rw [if_pos rfl] at HS
          clear hbd hmb hw1 hp2 hrb
          gi_wp2_with (refine ⟨trivial, ?_⟩; gi_at_call 58; refine (callsIn_wide.2 (HCv.out _)).mono ?_; rintro e w' ⟨rfl, rfl⟩)
          refine ⟨fun _ h => (by cases h), ?_⟩
          gi_wp2
          go_roundw
          case rel => exact ⟨k + 1, by omega, by simp, by rw [HS.out], by rw [HS.out]; exact hJs, hnx⟩
          case measure => simp [intOf]; omega
        · rw [if_neg hr0] at HS
          have hol := hbd.2.1
          clear hbd
          obtain ⟨fn, tmps, assign, body, hy, hR⟩ := hY out r wr hJs (by omega)
          have hb0 : (r != 0) = true := by simpa using hr0
          clear hr0
          gi_wp2_with (refine ⟨trivial, ?_⟩; gi_at_call 58; refine (callsIn_wide.2 (HCv.out _)).mono ?_; rintro e w' ⟨rfl, rfl⟩)
          refine hR.mono ?_
          rintro e W3 (⟨rfl, hJ3, hk3⟩ | ⟨rfl, hJx3⟩)
          · gi_wp2
            go_roundw
            case rel => exact ⟨k + 1, by omega, by simp, by rw [HS.out], by rw [HS.out]; exact hJ3, hnx.trans hk3⟩
            case measure => simp [intOf]; omega
          · gi_wp2
            refine bodyPost_ret (results_none rfl _ _ _) rfl ?_
            exact ⟨⟨_, rfl⟩, .inr ⟨_, trivial, hJx3⟩⟩
    · obtain rfl : k = len := by omega
      have e : xs.take k = xs := by rw [← Hn.out, List.take_length]
      have HE := Lib.hid (show runsL lo hi xs = if (runFold lo hi (xs.take k)).1 = 0 then (runFold lo hi (xs.take k)).2 else (runFold lo hi (xs.take k)).2 ++ [(runFold lo hi (xs.take k)).1] by rw [e]; rfl)
      clear e
      generalize runFold lo hi (xs.take k) = st at *
      obtain ⟨r, out⟩ := st
      dsimp only at hJs hbd HE ⊢
      by_cases hr0 : r = 0
      · subst hr0
        rw [if_pos rfl] at HE
        gi_wp2
        go_end0
        exact ⟨⟨_, rfl⟩, .inl ⟨_, rfl, by rw [HE.out]; exact hJs⟩⟩
      · rw [if_neg hr0] at HE
        obtain ⟨fn, tmps, assign, body, hy, hR⟩ := hY out r wr hJs (by omega)
        have hb0 : (r != 0) = true := by simpa using hr0
        clear hr0 hbd
        gi_wp2
        refine hR.mono ?_
        rintro e W3 (⟨rfl, hJ3, hk3⟩ | ⟨rfl, hJx3⟩)
        · gi_wp2
          go_end0
          exact ⟨⟨_, rfl⟩, .inl ⟨_, rfl, by rw [HE.out]; exact hJ3⟩⟩
        · gi_wp2
          go_end0
          exact ⟨⟨_, rfl⟩, .inr ⟨_, trivial, hJx3⟩⟩

/-- The world in which runs has laid its two variables. -/
def runsW (A : Option Addr) (len cap : Nat) (lo hi : Int) (w : World) : World := (w.alloc (.cells #[.slice A len cap] 22)).alloc (.cells #[.int .i64 lo, .int .i64 hi] 34)
theorem runsW_below (A : Option Addr) (len cap : Nat) (lo hi : Int) (w : World) : Below w.heap.size w (runsW A len cap lo hi w) := ((Below.refl _ w).alloc (Nat.le_refl _) _).alloc (by simp) _
theorem runsW_size (A : Option Addr) (len cap : Nat) (lo hi : Int) (w : World) : (runsW A len cap lo hi w).heap.size = w.heap.size + 2 := by unfold runsW; simp
theorem runsW_cells (A : Option Addr) (len cap : Nat) (lo hi : Int) (w : World) : (runsW A len cap lo hi w).cell? ⟨w.heap.size, 0, none⟩ = some (.slice A len cap) ∧ (runsW A len cap lo hi w).cell? ⟨w.heap.size + 1, 0, none⟩ = some (.int .i64 lo) ∧ (runsW A len cap lo hi w).cell? ⟨w.heap.size + 1, 1, none⟩ = some (.int .i64 hi) := by
  have h1 := alloc_new w (.cells #[.slice A len cap] 22)
  have h2 := alloc_new (w.alloc (.cells #[.slice A len cap] 22)) (.cells #[.int .i64 lo, .int .i64 hi] 34)
  rw [World.size_alloc] at h2
  have h3 := (Below.heap_alloc (w.alloc (.cells #[.slice A len cap] 22)) (.cells #[.int .i64 lo, .int .i64 hi] 34) w.heap.size (by simp)).trans h1
  refine ⟨?_, ?_, ?_⟩
  · unfold runsW; rw [cell_of_row _ _ _ _ _ _ h3]; rfl
  · unfold runsW; rw [cell_of_row _ _ _ _ _ _ h2]; rfl
  · unfold runsW; rw [cell_of_row _ _ _ _ _ _ h2]; rfl
theorem runs_calls (A : Option Addr) (len cap : Nat) (lo hi : Int) (w : World) :
    Calls Tryz.prog 63 #[.slice A len cap, .agg #[.int .i64 lo, .int .i64 hi]] w fun e w' => e = .returned (.func (.func 96) #[] #[.pointer (some ⟨w.heap.size, 0, none⟩), .pointer (some ⟨w.heap.size + 1, 0, none⟩)]) ∧ runsW A len cap lo hi w = w' := by
  unfold runsW
  go_enter Tryz.func63, Tryz.ntmps63
  go_wp2
  go_ret
  exact ⟨rfl, rfl⟩
theorem enters96 : ∀ args w, (callFunc 96 args).run Tryz.prog w = .ok (.enter 96 args) w := enters_of Tryz.func96 (by kernel_rfl) rfl
theorem runs_seq (A : Option Addr) (cap : Nat) (xs : List Int) (lo hi : Int) (w : World) (hx : IntsAt w A cap xs) (hbig : xs.length ≤ 1000000) (hlh : -1048576 ≤ lo ∧ lo ≤ 1048576 ∧ -1048576 ≤ hi ∧ hi ≤ 1048576) (hv : ∀ x ∈ xs, -1048576 ≤ x ∧ x ≤ 1048576) :
    SeqI 96 #[.pointer (some ⟨w.heap.size, 0, none⟩), .pointer (some ⟨w.heap.size + 1, 0, none⟩)] (runsW A xs.length cap lo hi w).heap.size (fun ys => ys = runsL lo hi xs) (xs.length + 1) (runsW A xs.length cap lo hi w) := fun l J Jx W hW _ _ hY h0 => by
  have hs := runsW_size A xs.length cap lo hi w
  have hc := runsW_cells A xs.length cap lo hi w
  have hI := (intsIn_of (ints_below hx (runsW_below A xs.length cap lo hi w))).below hW
  generalize runsW A xs.length cap lo hi w = w1 at *
  have h0' : w.heap.size < w1.heap.size := by omega
  have h1' : w.heap.size + 1 < w1.heap.size := by omega
  exact runs1_in 2 (by omega) l w.heap.size (w.heap.size + 1) w1.heap.size A cap xs.length xs lo hi rfl hbig hlh hv J Jx hY W ((hW.cell (p := ⟨w.heap.size, 0, none⟩) h0').trans hc.1) (by omega) ((hW.cell (p := ⟨w.heap.size + 1, 0, none⟩) h1').trans hc.2.1) ((hW.cell (p := ⟨w.heap.size + 1, 1, none⟩) h1').trans hc.2.2) hI h0
theorem row_ints {w : World} {base n : Nat} {ys : List Int} {v : Value} (h : w.ownsRow base 3 1 v n (ys.map (Value.int .i64))) (hbig : ys.length ≤ 4611686018427387904) : ∃ A c, v = .slice A ys.length c ∧ IntsAt w A c ys := by
  obtain ⟨h1, h2⟩ := h
  rw [List.length_map, Nat.mul_one] at h1
  by_cases h0 : ys = []
  · subst h0
    rcases h2 with ⟨h2, _⟩ | ⟨g, cap, cur, e, hb, hc, q1, q2, q3, q4⟩
    · exact ⟨none, 0, h2, ⟨Nat.le_refl _, by simp, .inl rfl⟩⟩
    · rw [← h1] at e
      exact ⟨_, cap, e, ⟨by simp, by simp, .inl rfl⟩⟩
  · rcases h2 with ⟨_, h2⟩ | ⟨g, cap, cur, rfl, hb, hc, q1, q2, q3, q4⟩
    · rw [← h1] at h2; exact absurd (List.eq_nil_of_length_eq_zero h2) h0
    · rw [← h1]
      exact ⟨_, cap, rfl, (intsAt_owned (n := ys.length) (base := base) ⟨by rw [List.length_map, Nat.mul_one], .inr ⟨g, cap, cur, rfl, hb, hc, by omega, q2, q3, by rw [h1]; exact q4⟩⟩ h0 hbig).2.2⟩
def runsV (xs : List Int) (lo hi : Int) : List Int := if givE xs lo hi = 0 then runsL lo hi xs else []
/-- An answer that is a list of ints and an error. -/
def SlPost (ys : List Int) (er : Int) (w : World) (e : Ending) (w' : World) : Prop := ∃ A c, e = .returned (.tuple #[.slice A ys.length c, .int .i64 er]) ∧ IntsAt w' A c ys ∧ Below w.heap.size w w'
set_option maxHeartbeats 1000000 in
theorem runs_all_calls (A : Option Addr) (c : Nat) (xs : List Int) (lo hi : Int) (w : World) (hx : IntsAt w A c xs) :
    Calls Tryz.prog 27 #[.slice A xs.length c, .agg #[.int .i64 lo, .int .i64 hi]] w (SlPost (runsV xs lo hi) (givE xs lo hi) w) := by
  have hA : Below w.heap.size w (w.alloc (.cells #[.int .i64 lo, .int .i64 hi] 34)) := (Below.refl _ w).alloc (Nat.le_refl _) _
  have HB := Lib.hid (both_calls A c xs lo hi _ (ints_below hx hA))
  have c1 : (w.alloc (.cells #[.int .i64 lo, .int .i64 hi] 34)).cell? ⟨w.heap.size, 0, none⟩ = some (.int .i64 lo) := by rw [cell_of_row _ _ _ _ _ _ (alloc_new w _)]; rfl
  have c2 : (w.alloc (.cells #[.int .i64 lo, .int .i64 hi] 34)).cell? ⟨w.heap.size, 1, none⟩ = some (.int .i64 hi) := by rw [cell_of_row _ _ _ _ _ _ (alloc_new w _)]; rfl
  have hlt : w.heap.size < (w.alloc (.cells #[.int .i64 lo, .int .i64 hi] 34)).heap.size := by simp
  have HCC := Lib.hid (And.intro c1 (And.intro c2 hlt))
  clear c1 c2 hlt
  have HX := Lib.hid hx
  have HA := Lib.hid hA
  clear hA hx
  have hE := @givE_ser xs lo hi
  unfold runsV
  by_cases h0 : givE xs lo hi = 0
  · have hk := hE h0
    have hok := serE_ok hk.1
    rw [h0] at HB
    rw [if_pos h0, h0]
    have HR := Lib.hid (fun w1 (h : Below w.heap.size w w1) => runs_seq A c xs lo hi w1 (ints_below HX.out h) (by omega) (by omega) hok.2.2)
    have HF := Lib.hid (fun w1 => runs_calls A xs.length c lo hi w1)
    have hrl : (runsL lo hi xs).length ≤ 4611686018427387904 := by
      have := runFold_bd lo hi xs
      unfold runsL
      split
      · omega
      · rw [List.length_append, List.length_singleton]; omega
    have HRL := Lib.hid hrl
    have hl4 := hok.2.1
    clear hE hk hok hrl h0
    generalize runsL lo hi xs = ys at *
    obtain ⟨n, hn⟩ : ∃ n, xs.length = n := ⟨_, rfl⟩
    rw [hn] at HB HR HF hl4 ⊢
    clear hn
    go_enter Tryz.func27, Tryz.ntmps27
    go_wp2_with (go_at_call 61; fail)
    refine (HB.out).mono ?_
    rintro e w1 ⟨rfl, hw1⟩
    have d1 := (hw1.cell (p := ⟨w.heap.size, 0, none⟩) HCC.out.2.2).trans HCC.out.1
    have d2 := (hw1.cell (p := ⟨w.heap.size, 1, none⟩) HCC.out.2.2).trans HCC.out.2.1
    have hB1 := below_below HA.out HA.out.size hw1
    go_wp2_with (go_at_call 63; fail)
    refine (HF.out _).mono ?_
    rintro e w2 ⟨rfl, hw2⟩
    have HS := Lib.hid (HR.out _ hB1)
    have hB2 := below_below hB1 hB1.size (runsW_below A n c lo hi w1)
    rw [hw2] at HS hB2
    have HC := Lib.hid (collect_calls _ _ enters96 _ _ _ _ _ HS.out (Below.refl _ _) (Nat.le_refl _) (by omega))
    clear hw2
    go_wp2_with (go_at_call 62; fail)
    refine (HC.out).mono ?_
    rintro e w3 ⟨v, zs, rfl, hzs, hrow, hnil, hB3⟩
    obtain ⟨A', c', rfl, hI⟩ := row_ints hrow (by rw [hzs]; exact HRL.out)
    have hfin := Lib.hid (show SlPost ys 0 w (.returned (.tuple #[.slice A' zs.length c', .int .i64 0])) w3 from by rw [hzs] at hI ⊢; exact ⟨A', c', rfl, hI, below_below hB2 hB2.size hB3⟩)
    clear hzs hrow hnil hI
    go_wp2
    go_ret2
    exact hfin.out
  · rw [if_neg h0]
    have hb : (givE xs lo hi != 0) = true := by simpa using h0
    clear hE h0
    generalize givE xs lo hi = er at *
    generalize xs.length = n at *
    go_enter Tryz.func27, Tryz.ntmps27
    go_wp2_with (go_at_call 61; refine (HB.out).mono ?_; rintro e w1 ⟨rfl, hw1⟩)
    have hB1 := below_below HA.out HA.out.size hw1
    go_ret2
    exact ⟨none, 0, rfl, ⟨Nat.le_refl _, by simp, .inl rfl⟩, hB1⟩
end Go.Proofs.YtdkfebfedfemaaaGreatDoor
