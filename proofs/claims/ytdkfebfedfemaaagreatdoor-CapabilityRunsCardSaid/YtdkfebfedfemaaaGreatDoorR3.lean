/- The sums' mul, add, sub, lowest. -/
import Derived.Test.YtdkfebfedfemaaaGreatDoorR2
import Derived.Test.YtdkfebfedfemaaaGreatDoorM9
set_option linter.unusedVariables false
set_option linter.unusedSimpArgs false
namespace Go.Proofs.YtdkfebfedfemaaaGreatDoor
open Go.RowKit Go.Mlab

def mulF : Int → Int → List Int → Int × Int
  | e, v, [] => (v, e)
  | e, v, a :: r => mulF (stepE e (v * a)) (stepV e (v * a)) r
theorem texts_ch {w w1 : World} {b o : Nat} {ls : List ByteArray} {S : Nat → Prop} (h : Texts w b o ls) (k : Ch S w w1) (hb : ¬ S b) : Texts w1 b o ls :=
  ⟨Nat.lt_of_lt_of_le h.1 k.size, fun j hj => (World.cell?_of_block (w := w) (a := ⟨b, o + j, none⟩) (k.block b h.1 hb)).trans (h.2 j hj)⟩
theorem fits_one : fits 1 = true := fits_1
set_option maxHeartbeats 1000000 in
theorem mul_list_calls (b c cap : Nat) (e : Int) (zs : List Int) (w : World) (hs : SumAt w b e) (hl : Texts w c 0 (zs.map T)) (hbc : c ≠ b) (hn : zs.length ≤ cap) (hn2 : zs.length ≤ 1000000) (hf : ∀ z ∈ zs, fits z = true)
    (ht : ∀ w', Ch (· = b) w w' → Tab w') :
    Calls Tryz.prog 73 #[.pointer (some ⟨b, 0, none⟩), .slice (some ⟨c, 0, none⟩) zs.length cap] w fun r w' =>
      r = .returned (.string (T (mulF e 1 zs).1)) ∧ SumAt w' b (mulF e 1 zs).2 ∧ Ch (· = b) w w' := by
  have HL := Lib.hid (And.intro hl (And.intro hs (And.intro hf ht)))
  clear hl hs ht hf
  obtain ⟨n, hln⟩ : ∃ n, zs.length = n := ⟨_, rfl⟩
  rw [hln] at hn hn2 ⊢
  have Hn := Lib.hid hln
  clear hln
  obtain ⟨V, hV⟩ : ∃ V, (mulF e 1 zs).1 = V := ⟨_, rfl⟩
  obtain ⟨E, hE⟩ : ∃ E, (mulF e 1 zs).2 = E := ⟨_, rfl⟩
  rw [hV, hE]
  have HVE := Lib.hid (show mulF e 1 zs = (V, E) by rw [← hV, ← hE])
  clear hV hE
  go_enter Tryz.func73, Tryz.ntmps73
  go_wp2
  go_loopg [5, 13] n (fun k v5 v13 wr => ∃ (i : Nat) (e' v : Int), v5 = .string (T v) ∧ v13 = .int .i64 i ∧ k + i = n ∧ Hid (mulF e' v (zs.drop i) = (V, E) ∧ fits v = true ∧ SumAt wr b e' ∧ Ch (· = b) w wr))
  case atStart => exact ⟨0, e, 1, by rw [show T 1 = { data := #[49] } from T_one], rfl, by omega, ⟨HVE.out, fits_one, HL.out.2.1, Ch.refl _ _⟩⟩
  case round =>
    obtain ⟨i, e', v, rfl, rfl, hi, hr⟩ := hrel
    cases gk with
    | zero =>
      obtain rfl : i = n := by omega
      clear hi
      have h1 := hr.out.1
      rw [← Hn.out, List.drop_length] at h1
      have h2 : v = V := congrArg Prod.fst h1
      have h3 : e' = E := congrArg Prod.snd h1
      clear h1
      subst h2 h3
      go_wp2
      go_ret
      exact ⟨rfl, hr.out.2.2.1, hr.out.2.2.2⟩
    | succ m =>
      have hin : i < n := by omega
      have hin2 : (i : Int) < n := by omega
      have hlen : i < zs.length := by rw [Hn.out]; exact hin
      have hc : wr.cell? ⟨c, 0 + i, none⟩ = some (.string (T (zs.getD i 0))) := by
        have := (texts_ch HL.out.1 hr.out.2.2.2 hbc).2 i (by rw [List.length_map]; exact hlen)
        rw [List.getD_eq_getElem?_getD, List.getElem?_map, List.getElem?_eq_getElem hlen] at this
        rw [List.getD_eq_getElem?_getD, List.getElem?_eq_getElem hlen]
        exact this
      rw [Nat.zero_add] at hc
      have hmem : zs.getD i 0 ∈ zs := by
        rw [List.getD_eq_getElem?_getD, List.getElem?_eq_getElem hlen]; exact List.getElem_mem _
      have ha := HL.out.2.2.1 _ hmem
      have hD := Lib.hid (do_mul b e' v (zs.getD i 0) (v * zs.getD i 0) wr hr.out.2.2.1 (fun _ => mul_calls v (zs.getD i 0) wr hr.out.2.1 ha (HL.out.2.2.2 wr hr.out.2.2.2)))
      have hN := Lib.hid (show mulF (stepE e' (v * zs.getD i 0)) (stepV e' (v * zs.getD i 0)) (zs.drop (i + 1)) = (V, E) by
        have h1 := hr.out.1
        rw [List.drop_eq_getElem_cons hlen] at h1
        rw [List.getD_eq_getElem?_getD, List.getElem?_eq_getElem hlen]
        exact h1)
      clear hmem ha
      generalize zs.getD i 0 = a at *
      go_wp2_with (go_at_call 106; fail)
      refine (hD.out).mono ?_
      rintro r w1 ⟨rfl, h1, h2⟩
      have G := Lib.hid (And.intro h1 h2)
      clear h1 h2
      go_wp2
      go_roundg m
      case measure => omega
      case rel => exact ⟨i + 1, _, _, rfl, by go_num, by omega, ⟨hN.out, stepV_fits _ _, G.out.1, hr.out.2.2.2.trans G.out.2 (fun i hi h => h)⟩⟩

theorem mulF2 (e n q : Int) (hn : fits n = true) : mulF e 1 [n, q] = (stepV e (n * q), stepE e (n * q)) := by
  show (stepV (stepE e (1 * n)) (stepV e (1 * n) * q), stepE (stepE e (1 * n)) (stepV e (1 * n) * q)) = _
  rw [Int.one_mul]
  by_cases h : e = 0
  · subst h
    have e1 : stepE 0 n = 0 := by unfold stepE; rw [if_pos rfl, limE_ok hn]
    have e2 : stepV 0 n = n := by unfold stepV; rw [if_pos ⟨rfl, hn⟩]
    rw [e1, e2]
  · have e1 : stepE e n = e := by unfold stepE; rw [if_neg h]
    rw [e1]
    have e2 : ∀ z, stepV e z = 0 := fun z => by unfold stepV; rw [if_neg (fun q => h q.1)]
    have e3 : ∀ z, stepE e z = e := fun z => by unfold stepE; rw [if_neg h]
    rw [e2, e2, e2, e3, e3]
/-- A product of two in the sums. -/
theorem mul2_calls (b : Nat) (e n q : Int) (ty : TypeId) (w0 w : World) (hB : Below w0.heap.size w0 w) (hb0 : w0.heap.size ≤ b) (hs : SumAt w b e) (hn : fits n = true) (hq : fits q = true) (ht : Tab w0) :
    Calls Tryz.prog 73 #[.pointer (some ⟨b, 0, none⟩), .slice (some ⟨w.heap.size, 0, none⟩) 2 2] (w.alloc (.cells #[.string (T n), .string (T q)] ty)) fun r w' =>
      r = .returned (.string (T (stepV e (n * q)))) ∧ SumAt w' b (stepE e (n * q)) ∧ Ch (· = b) w w' := by
  have hA : Ch (· = b) w (w.alloc (.cells #[.string (T n), .string (T q)] ty)) := (Ch.refl _ w).alloc _
  have h := mul_list_calls b w.heap.size 2 e [n, q] (w.alloc (.cells #[.string (T n), .string (T q)] ty)) (sumAt_below hs ((Below.refl _ w).alloc (Nat.le_refl _) _)) (texts_new2 w _ _ ty) (by have := sumAt_lt hs; omega) (Nat.le_refl 2) (show 2 ≤ 1000000 by decide)
    (by
      intro z hz; simp at hz; rcases hz with rfl | rfl
      · exact hn
      · exact hq)
    (fun w' k => tab_below ht (below_ch hB hB.size (hA.trans k (fun i _ h => h)) (fun i hi => by omega)))
  refine h.mono ?_
  rw [mulF2 e n q hn]
  rintro r w' ⟨rfl, h1, h2⟩
  exact ⟨rfl, h1, hA.trans h2 (fun i _ h => h)⟩
theorem step_ok {z : Int} (h : fits z = true) : stepV 0 z = z ∧ stepE 0 z = 0 := by
  unfold stepV stepE; rw [if_pos ⟨rfl, h⟩, if_pos rfl, limE_ok h]; exact ⟨rfl, rfl⟩
/-- Worlds of one sums' life: only its block, and new ones, have changed. -/
structure Life (w0 : World) (b : Nat) (e : Int) (w : World) : Prop where
  s : SumAt w b e
  below : Below w0.heap.size w0 w
  low : w0.heap.size ≤ b
theorem Life.next {w0 w w' : World} {b : Nat} {e f : Int} (h : Life w0 b e w) (hs : SumAt w' b f) (k : Ch (· = b) w w') : Life w0 b f w' :=
  ⟨hs, below_ch h.below h.below.size k (fun i hi => by have := h.low; omega), h.low⟩
theorem Life.tab {w0 w : World} {b : Nat} {e : Int} (h : Life w0 b e w) (ht : Tab w0) : Tab w := tab_below ht h.below
theorem sub_m (b : Nat) (x y v : ByteArray) (R : World → Prop) (w : World) (h : Calls Tryz.prog 106 #[.pointer (some ⟨b, 0, none⟩), .func (.func 181) #[] #[], .string x, .string y] w fun r w' => r = .returned (.string v) ∧ R w') :
    Calls Tryz.prog 151 #[.pointer (some ⟨b, 0, none⟩), .string x, .string y] w fun r w' => r = .returned (.string v) ∧ R w' := by
  have H := Lib.hid h
  clear h
  go_enter Tryz.func151, Tryz.ntmps151
  go_wp2_with (go_at_call 106; fail)
  refine (H.out).mono ?_
  rintro r w1 ⟨rfl, h⟩
  have G := Lib.hid h
  clear h
  go_wp2
  go_ret
  exact ⟨rfl, G.out⟩
set_option maxHeartbeats 1000000 in
theorem lowest_calls (b : Nat) (num den : Int) (w0 w : World) (hL : Life w0 b 0 w) (h1 : fits num = true) (h2 : fits den = true) (hd : den ≠ 0) (ht : Tab w0) :
    Calls Tryz.prog 115 #[.pointer (some ⟨b, 0, none⟩), .string (T num), .string (T den)] w fun r w' =>
      r = .returned (.string (Q (Rat.divInt num den))) ∧ Life w0 b 0 w' := by
  have HL := Lib.hid hL
  clear hL
  have hg := fits_gcd (num := num) hd h2
  have hgs := fits_gsign (num := num) hd h2
  have HG := Lib.hid (do_gcd b 0 num den ((Nat.gcd num.natAbs den.natAbs : Nat) : Int) w HL.out.s (fun _ => by
    have := gcd_calls num den w h1 h2 (HL.out.tab ht)
    rw [limT_ok hg, limE_ok hg]; exact this))
  unfold DoPost at HG
  rw [(step_ok hg).1, (step_ok hg).2] at HG
  have hpre : Lib.hasPrefix (T den).data.toList [45] = decide (den < 0) := by
    rw [hasPrefix_minus]
    congr 1
    apply propext
    exact itoa_head_neg
  have HP := Lib.hid (fun w => strings_HasPrefix (T den) { data := #[45] } w)
  rw [show ({ data := #[45] } : ByteArray).data.toList = [45] from rfl, hpre] at HP
  have fz : fits 0 = true := fits_0
  have HS := Lib.hid (fun w (hl : Life w0 b 0 w) => do_sub b 0 0 ((Nat.gcd num.natAbs den.natAbs : Nat) : Int) (-((Nat.gcd num.natAbs den.natAbs : Nat) : Int)) w hl.s (fun _ => by
    have := sub_calls 0 ((Nat.gcd num.natAbs den.natAbs : Nat) : Int) w fz hg (hl.tab ht)
    rw [Int.zero_sub] at this; exact this))
  have hgn : fits (-((Nat.gcd num.natAbs den.natAbs : Nat) : Int)) = true := by rw [fits_neg]; exact hg
  unfold DoPost at HS
  rw [(step_ok hgn).1, (step_ok hgn).2, T_zero_bytes] at HS
  have hne := gsign_ne (num := num) hd
  have HQ1 := Lib.hid (fun w (hl : Life w0 b 0 w) => do_quo b 0 num (gsign num den) (Rat.divInt num den).num w hl.s (fun _ => by
    have := quo_calls num (gsign num den) w h1 hgs (hl.tab ht) hne
    rw [low_num hd] at this
    have hf := (fitsR_iff.1 (fitsR_divInt hd h1 h2)).1
    rw [limT_ok hf, limE_ok hf]; exact this))
  have HQ2 := Lib.hid (fun w (hl : Life w0 b 0 w) => do_quo b 0 den (gsign num den) (Rat.divInt num den).den w hl.s (fun _ => by
    have := quo_calls den (gsign num den) w h2 hgs (hl.tab ht) hne
    rw [low_den hd] at this
    have hf := (fitsR_iff.1 (fitsR_divInt hd h1 h2)).2
    rw [limT_ok hf, limE_ok hf]; exact this))
  have hf := fitsR_iff.1 (fitsR_divInt hd h1 h2)
  unfold DoPost at HQ1 HQ2
  rw [(step_ok hf.1).1, (step_ok hf.1).2] at HQ1
  rw [(step_ok hf.2).1, (step_ok hf.2).2] at HQ2
  have HJ := Lib.hid (fun w => joined_calls (Rat.divInt num den) w (fitsR_divInt hd h1 h2))
  clear hf hgn fz hg hgs hpre hne h1 h2
  unfold gsign at HQ1 HQ2
  generalize Q (Rat.divInt num den) = out at *
  generalize T (Rat.divInt num den).num = tn at *
  generalize T ((Rat.divInt num den).den : Int) = td at *
  generalize T num = sn at *
  generalize T den = sd at *
  by_cases hneg : den < 0
  · rw [if_pos hneg] at HQ1 HQ2
    rw [decide_eq_true hneg] at HP
    clear hneg hd
    generalize T (-((Nat.gcd num.natAbs den.natAbs : Nat) : Int)) = tg at *
    generalize T ((Nat.gcd num.natAbs den.natAbs : Nat) : Int) = tg' at *
    go_enter Tryz.func115, Tryz.ntmps115
    go_wp2_with (go_at_call 106; fail)
    refine (HG.out).mono ?_
    rintro r w1 ⟨rfl, k1, k2⟩
    have L1 := Lib.hid (HL.out.next k1 k2)
    clear k1 k2
    go_wp2_with (go_at_call 150; refine (HP.out _).mono ?_; rintro r w2 ⟨rfl, rfl⟩)
    go_wp2_with (go_at_call 151; fail)
    refine (sub_m _ _ _ _ _ _ (HS.out _ L1.out)).mono ?_
    rintro r w3 ⟨rfl, k1, k2⟩
    have L3 := Lib.hid (L1.out.next k1 k2)
    clear k1 k2
    have c5 := sumAt_cell L3.out.s
    go_wp2_with (go_at_call 106; fail)
    refine (HQ1.out _ L3.out).mono ?_
    rintro r w4 ⟨rfl, k1, k2⟩
    have L4 := Lib.hid (L3.out.next k1 k2)
    clear k1 k2 c5
    go_wp2_with (go_at_call 106; fail)
    refine (HQ2.out _ L4.out).mono ?_
    rintro r w5 ⟨rfl, k1, k2⟩
    have L5 := Lib.hid (L4.out.next k1 k2)
    clear k1 k2
    go_wp2_with (go_at_call 152; refine (HJ.out _).mono ?_; rintro r w6 ⟨rfl, rfl⟩)
    go_ret
    exact ⟨rfl, L5.out⟩
  · rw [if_neg hneg] at HQ1 HQ2
    rw [decide_eq_false hneg] at HP
    clear hneg hd
    clear HS
    generalize T ((Nat.gcd num.natAbs den.natAbs : Nat) : Int) = tg at *
    go_enter Tryz.func115, Tryz.ntmps115
    go_wp2_with (go_at_call 106; fail)
    refine (HG.out).mono ?_
    rintro r w1 ⟨rfl, k1, k2⟩
    have L1 := Lib.hid (HL.out.next k1 k2)
    have c1 := sumAt_cell L1.out.s
    clear k1 k2
    go_wp2_with (go_at_call 150; refine (HP.out _).mono ?_; rintro r w2 ⟨rfl, rfl⟩)
    have c5 := sumAt_cell L1.out.s
    go_wp2_with (go_at_call 106; fail)
    refine (HQ1.out _ L1.out).mono ?_
    rintro r w4 ⟨rfl, k1, k2⟩
    have L4 := Lib.hid (L1.out.next k1 k2)
    clear k1 k2 c5
    go_wp2_with (go_at_call 106; fail)
    refine (HQ2.out _ L4.out).mono ?_
    rintro r w5 ⟨rfl, k1, k2⟩
    have L5 := Lib.hid (L4.out.next k1 k2)
    clear k1 k2
    go_wp2_with (go_at_call 152; refine (HJ.out _).mono ?_; rintro r w6 ⟨rfl, rfl⟩)
    go_ret
    exact ⟨rfl, L5.out⟩
end Go.Proofs.YtdkfebfedfemaaaGreatDoor
