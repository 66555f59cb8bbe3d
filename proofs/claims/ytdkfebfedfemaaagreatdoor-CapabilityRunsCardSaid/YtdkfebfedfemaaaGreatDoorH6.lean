/- The reference's Spread. -/
import Derived.Test.YtdkfebfedfemaaaGreatDoorH4
import Derived.BigRegion
import Derived.Deep.RegionHeld3
import Derived.Deep.AppendLies
set_option linter.unusedVariables false
set_option linter.unusedSimpArgs false
namespace Go.Proofs.YtdkfebfedfemaaaGreatDoor
open Go.RowKit Go.Mlab

theorem sorted_first {l : List Int} (h : l.Pairwise fun x y => x ≤ y) {x : Int} (hx : x ∈ l) : l.getD 0 0 ≤ x := by
  cases l with
  | nil => cases hx
  | cons a l =>
    rcases List.mem_cons.1 hx with rfl | hx
    · exact Int.le_refl _
    · exact (List.pairwise_cons.1 h).1 x hx
theorem sorted_last {l : List Int} (h : l.Pairwise fun x y => x ≤ y) {x : Int} (hx : x ∈ l) : x ≤ l.getD (l.length - 1) 0 := by
  rcases List.eq_nil_or_concat l with rfl | ⟨A, a, rfl⟩
  · cases hx
  · rw [List.concat_eq_append] at h hx ⊢
    have e : (A ++ [a]).getD ((A ++ [a]).length - 1) 0 = a := by
      rw [List.length_append, List.length_singleton, Nat.add_sub_cancel, List.getD_eq_getElem?_getD, List.getElem?_append_right (Nat.le_refl _), Nat.sub_self]; rfl
    rw [e]
    rcases List.mem_append.1 hx with hx | hx
    · exact (List.pairwise_append.1 h).2.2 x hx a (by simp)
    · rw [List.mem_singleton.1 hx]; exact Int.le_refl _
theorem sorted_wid {l : List Int} (h0 : l ≠ []) : (sortZ l).getD (l.length - 1) 0 - (sortZ l).getD 0 0 = wid l := by
  have hl : 0 < l.length := List.length_pos_iff.2 h0
  have m1 : (sortZ l).getD (l.length - 1) 0 ∈ l := sortZ_mem.1 (getD_mem (by rw [sortZ_len]; omega))
  have m0 : (sortZ l).getD 0 0 ∈ l := sortZ_mem.1 (getD_mem (by rw [sortZ_len]; omega))
  have a1 : ∀ x ∈ l, x ≤ (sortZ l).getD (l.length - 1) 0 := fun x hx => by
    have := sorted_last (sortZ_pw l) (sortZ_mem.2 hx)
    rwa [sortZ_len] at this
  have a0 : ∀ x ∈ l, (sortZ l).getD 0 0 ≤ x := fun x hx => sorted_first (sortZ_pw l) (sortZ_mem.2 hx)
  have b1 := maxOf_ge m1
  have b2 := minOf_le m0
  have b3 := maxOf_le h0 a1
  have b4 := le_minOf h0 a0
  unfold wid
  omega
theorem sprL_snoc (xs : List Int) (g j : Nat) : sprL xs g (j + 1) = sprL xs g j ++ [wid (grp xs g j)] := by
  unfold sprL; rw [List.range_succ, List.map_append]; rfl
theorem ints_sub {w : World} {b o c g j : Nat} {xs : List Int} (h : IntsAt w (some ⟨b, o, none⟩) c xs) (hg : 0 < g) (hj : (j + 1) * g ≤ xs.length) : IntsAt w (some ⟨b, o + j * g, none⟩) (c - j * g) (grp xs g j) := by
  have hl := grp_len hj
  have hc := h.cap
  have hb := h.big
  have hj2 : j * g + g ≤ xs.length := by rw [Nat.add_mul, Nat.one_mul] at hj; exact hj
  refine ⟨by omega, by omega, .inr ⟨b, o + j * g, rfl, ?_, fun i hi => ?_⟩⟩
  · obtain ⟨b', o', e, hcell⟩ := ints_get h (i := 0) (by omega)
    cases e
    rcases h.at_ with h0 | ⟨b', o', e, hb', _⟩
    · rw [h0] at hj2; simp at hj2; omega
    · cases e; exact hb'
  · rw [hl] at hi
    obtain ⟨b', o', e, hcell⟩ := ints_get h (i := j * g + i) (by omega)
    cases e
    rw [grp_get hj hi, Nat.add_assoc]; exact hcell
set_option maxHeartbeats 1000000 in
theorem ref_spread_no (A : Option Addr) (c : Nat) (xs : List Int) (G : Int) (w : World) (hx : IntsAt w A c xs) (hE : sprE xs G ≠ 0) :
    Calls Tryz.prog 30 #[.slice A xs.length c, .int .i64 G] w (SprPost [] { data := #[] } (sprE xs G) w) := by
  have HC := Lib.hid (ref_check_calls A c xs w hx)
  have hbig := hx.big
  have HF := Lib.hid (fun er => show SprPost [] { data := #[] } er w (.returned (.tuple #[.slice none 0 0, .string { data := #[] }, .int .i64 er])) w from ⟨none, 0, rfl, ⟨Nat.le_refl _, by simp, .inl rfl⟩, Below.refl _ _⟩)
  clear hx
  unfold sprE at hE ⊢
  by_cases h1 : serE xs = 0
  · rw [h1] at HC
    rw [h1, if_neg (by decide)] at hE
    rw [h1, if_neg (by decide)]
    generalize xs.length = n at *
    by_cases h2 : G < 2
    · rw [if_pos (.inl h2)]
      clear hE
      go_enter Tryz.func30, Tryz.ntmps30
      go_wp2_with (go_at_call 19; refine (HC.out).mono ?_; rintro e w1 ⟨rfl, rfl⟩)
      go_returns
      exact HF.out 2
    · by_cases h3 : 256 < G
      · rw [if_pos (.inr h3)]
        have h4 : 2 ≤ G := by omega
        clear hE h2
        go_enter Tryz.func30, Tryz.ntmps30
        go_wp2_with (go_at_call 19; refine (HC.out).mono ?_; rintro e w1 ⟨rfl, rfl⟩)
        go_returns
        exact HF.out 2
      · rw [if_neg (by omega)] at hE
        rw [if_neg (by omega)]
        have h5 : (n : Int) < G := by
          by_cases h : (n : Int) < G
          · exact h
          · rw [if_neg h] at hE; exact absurd rfl hE
        rw [if_pos h5]
        have h4 : 2 ≤ G := by omega
        have h6 : G ≤ 256 := by omega
        clear hE h2 h3
        go_enter Tryz.func30, Tryz.ntmps30
        go_wp2_with (go_at_call 19; refine (HC.out).mono ?_; rintro e w1 ⟨rfl, rfl⟩)
        go_returns
        exact HF.out 14
  · rw [if_pos h1]
    have hb : (serE xs != 0) = true := by simpa using h1
    clear hE h1
    generalize serE xs = er at *
    generalize xs.length = n at *
    go_enter Tryz.func30, Tryz.ntmps30
    go_wp2_with (go_at_call 19; refine (HC.out).mono ?_; rintro e w1 ⟨rfl, rfl⟩)
    go_returns
    exact HF.out er
theorem ints_some' {w : World} {A : Option Addr} {c : Nat} {xs : List Int} (h : IntsAt w A c xs) (h0 : 0 < xs.length) : ∃ b o, A = some ⟨b, o, none⟩ := by
  obtain ⟨b, o, e, _⟩ := ints_get h h0
  exact ⟨b, o, e⟩
set_option maxRecDepth 100000 in
set_option maxHeartbeats 4000000 in
theorem ref_spread_ok (A : Option Addr) (c g : Nat) (xs : List Int) (w : World) (hx : IntsAt w A c xs) (hE : sprE xs g = 0) :
    Calls Tryz.prog 30 #[.slice A xs.length c, .int .i64 g] w (SprPost (sprL xs g (xs.length / g)) (Q (avg (sprL xs g (xs.length / g)))) 0 w) := by
  obtain ⟨i0, hi0, hz0, hz1, hz2⟩ := int_info
  have hk := sprE_ok hE
  have hok := serE_ok hk.1
  have hl0 : 0 < xs.length := List.length_pos_iff.2 hok.1
  obtain ⟨b, o, rfl⟩ := ints_some' hx hl0
  have HC := Lib.hid (ref_check_calls _ c xs w hx)
  rw [hk.1] at HC
  have HX := Lib.hid hx
  have HV := Lib.hid hok.2.2
  have hl := hok.2.1
  have hg2 := hk.2.1
  have hg3 := hk.2.2.1
  have hgl := hk.2.2.2
  have hcap := hx.cap
  clear hx hE hk hok
  obtain ⟨n, hn⟩ : ∃ n, xs.length = n := ⟨_, rfl⟩
  rw [hn] at HC hl hgl hcap hl0 ⊢
  obtain ⟨q, hq⟩ : ∃ q, n / g = q := ⟨_, rfl⟩
  rw [hq]
  have hq1 : q * g ≤ n := by rw [← hq]; exact Nat.div_mul_le_self n g
  have hq2 : n < (q + 1) * g := by
    have h := Nat.lt_mul_div_succ n (show 0 < g by omega)
    rw [hq, Nat.mul_comm] at h; exact h
  have hq0 : 0 < q := by rw [← hq]; exact Nat.div_pos (by omega) (by omega)
  have hqn : q ≤ n := by rw [← hq]; exact Nat.div_le_self _ _
  have HQ := Lib.hid (And.intro hq1 hq2)
  have hng1 : decide (n < g) = false := decide_eq_false (by omega)
  have hng2 : decide ((n : Int) < (g : Int)) = false := decide_eq_false (by omega)
  have Hn := Lib.hid hn
  have HT := Lib.hid (show Tame (sprL xs g q) from ⟨by unfold sprL; simp; omega, fun y hy => by
    unfold sprL at hy
    obtain ⟨j, hj, rfl⟩ := List.mem_map.1 hy
    have hj := List.mem_range.1 hj
    have hle : (j + 1) * g ≤ xs.length := by rw [hn]; exact Nat.le_trans (Nat.mul_le_mul_right g (show j + 1 ≤ q by omega)) hq1
    have hne : grp xs g j ≠ [] := by intro e; have := grp_len hle; rw [e] at this; simp at this; omega
    have := wid_bd hne (fun x hx => HV.out x (grp_mem hx))
    omega⟩)
  clear hq1 hq2 hq hn
  have hslen : ∀ j, (sprL xs g j).length = j := fun j => by unfold sprL; simp
  have HSL := Lib.hid hslen
  clear hslen
  go_enter Tryz.func30, Tryz.ntmps30
  go_wp2_with (go_at_call 19; refine (HC.out).mono ?_; rintro e w1 ⟨rfl, rfl⟩)
  go_wp2
  go_loopg [8, 9, 10] q (fun k v8 v9 v10 wr => ∃ j : Nat, v9 = .int .i64 ((j * g : Nat) : Int) ∧ k + j = q ∧ Hid (OwnZ wr w1.heap.size v8 (sprL xs g j) ∧ Below w1.heap.size w1 wr))
  case atStart => exact ⟨0, by rw [Nat.zero_mul]; rfl, by omega, ⟨ownZ_nil _ _, Below.refl _ _⟩⟩
  case round =>
    obtain ⟨j, rfl, hj, hr⟩ := hrel
    cases gk with
    | zero =>
      obtain rfl : j = q := by omega
      obtain ⟨A', c', e, hI⟩ := ownZ_ints hr.out.1 (by rw [HSL.out]; omega)
      have HCt := Lib.hid (center_calls A' c' (sprL xs g j) wr hI HT.out (by intro e2; have := HSL.out j; rw [e2] at this; simp at this; omega))
      have hbig : n < j * g + g := by have := HQ.out.2; rw [Nat.add_mul, Nat.one_mul] at this; exact this
      have hsm : j * g ≤ n := HQ.out.1
      have HI := Lib.hid (And.intro hI hr.out.2)
      rw [HSL.out] at e HCt
      subst e
      unfold LowPost at HCt
      clear hj hr hI hi0 hz0 hz1 hz2
      unfold SprPost
      rw [HSL.out]
      generalize Q (avg (sprL xs g j)) = qa at *
      generalize hig : j * g = ig at *
      clear hig
      have hb1 : (n : Int) < ig + g := by omega
      have hb2 : (ig : Int) ≤ n := by omega
      go_wp2_with (go_at_call 42; fail)
      refine (HCt.out).mono ?_
      rintro e w3 ⟨rfl, hw3⟩
      have hfin := Lib.hid (And.intro (ints_below HI.out.1 hw3) (below_below HI.out.2 HI.out.2.size hw3))
      go_wp2
      go_returns
      exact ⟨A', c', by rw [HSL.out]; rfl, hfin.out.1, hfin.out.2⟩
    | succ m =>
      have hjq : j < q := by omega
      have hle : (j + 1) * g ≤ xs.length := by rw [Hn.out]; exact Nat.le_trans (Nat.mul_le_mul_right g (show j + 1 ≤ q by omega)) HQ.out.1
      have hgl2 := grp_len hle
      have hI := ints_sub (ints_below HX.out hr.out.2) (by omega) hle
      have hgne : grp xs g j ≠ [] := by intro e; rw [e] at hgl2; simp at hgl2; omega
      have HS := Lib.hid (ref_sorted_calls _ _ _ wr hI (by omega))
      have hww := sorted_wid hgne
      have hwb := wid_bd hgne (fun x hx => HV.out x (grp_mem hx))
      rw [hgl2] at HS hww
      have HG := Lib.hid (sprL_snoc xs g j)
      have hown := hr.out.1
      unfold OwnZ at hown
      rw [HSL.out] at hown
      have hjg : (j + 1) * g = j * g + g := by rw [Nat.add_mul, Nat.one_mul]
      have HJ := Lib.hid hjg
      rw [hjg, Hn.out] at hle
      have hbd := Lib.hid (fun y => sortZ_mem (xs := grp xs g j) (x := y))
      have hm1 := HV.out _ (grp_mem (sortZ_mem.1 (getD_mem (xs := sortZ (grp xs g j)) (i := g - 1) (by rw [sortZ_len, hgl2]; omega))))
      have hm0 := HV.out _ (grp_mem (sortZ_mem.1 (getD_mem (xs := sortZ (grp xs g j)) (i := 0) (by rw [sortZ_len, hgl2]; omega))))
      have hsl : (sortZ (grp xs g j)).length = g := by rw [sortZ_len, hgl2]
      clear hjg hI hgne hgl2
      generalize wid (grp xs g j) = wd at *
      generalize sortZ (grp xs g j) = ss at *
      generalize j * g = ig at *
      have hle2 : (ig : Int) + g ≤ n := by omega
      have hsz := hr.out.2.size
      go_wp2_with (go_at_call 46; fail)
      refine (HS.out).mono ?_
      rintro e w3 ⟨v', rfl, hO3, hw3⟩
      obtain ⟨b', c', e, hb', hbl, hc3⟩ := ownZ_some hO3 (by intro e; rw [e] at hsl; simp at hsl; omega)
      rw [hsl] at e hc3
      subst e
      have cl := (ownZ_cell hO3 (j := g - 1) (by omega)).1
      have c0 := (ownZ_cell hO3 (j := 0) (by omega)).1
      have HOwn := Lib.hid (ownZ_below hr.out.1 hw3)
      have HB := Lib.hid (below_below hr.out.2 hsz hw3)
      have hsz3 := HB.out.size
      have hown3 := HOwn.out
      unfold OwnZ at hown3
      rw [HSL.out] at hown3
      have hne : u8.ownBlock ≠ some b' := by
        intro ej
        rcases hr.out.1.2 with ⟨e2, _⟩ | ⟨g', cap', cur, e2, _, hgb, _⟩
        · rw [e2] at ej; simp [Value.ownBlock] at ej
        · rw [e2] at ej
          have h1 : g' = b' := by simpa [Value.ownBlock] using ej
          have h2 := (Array.getElem?_eq_some_iff.1 hgb).1
          omega
      obtain ⟨g1, hg1⟩ : ∃ g1, g - 1 = g1 := ⟨_, rfl⟩
      have hgi : (g : Int) - 1 = g1 := by omega
      have hgl1 : (g1 : Int) < g := by omega
      have hg0 : (0 : Int) < g := by omega
      have hg00 : 0 < g := by omega
      have hgw : IntKind.i64.wrap (g1 : Int) = g1 := Go.IntWalk.i64_in _ ⟨by omega, by omega⟩
      rw [hg1] at cl hm1 hww
      clear hO3 hw3 HS hown hbd hsl
      generalize ss.getD g1 0 = y1 at *
      generalize ss.getD 0 0 = y0 at *
      subst hww
      have hjn : j ≤ 4096 := by omega
      have hsw : IntKind.i64.wrap (y1 - y0) = y1 - y0 := Go.IntWalk.i64_in _ ⟨by omega, by omega⟩
      have HGE := Lib.hid (fun jj ej => ownZ_ge hr.out.1 jj ej)
      have hl0 : (0 : Int) ≤ g1 := by omega
      clear hr
      go_wp2
      go_region_held3 (fun W : World => W.cell? ⟨b', g1, none⟩ = some (.int .i64 y1) ∧ W.cell? ⟨b', 0, none⟩ = some (.int .i64 y0))
        (first
          | go_keep
          | (go_split_ands
             refine ⟨?_, ?_⟩
             · (rw [hgrow.cell_far _ (by simp; omega) (Ne.symm hne)]; assumption)
             · (rw [hgrow.cell_far _ (by simp; omega) (Ne.symm hne)]; assumption)))
        ((refine step_append_lies _ (by rfl) _ _ _ (by rfl) w1.heap.size 3 i0 _ 1 8 Tryz.underlying22 hi0 hz0 hz1 hz2 rfl (by omega) u8 j ((sprL xs g j).map (Value.int .i64)) (by rfl) ((hown3.alloc _).drew)
            ⟨w3.heap.size, 0, none⟩ 1 1 [.int .i64 (y1 - y0)] (by rfl) (by rfl) (World.news_of_block (cs := #[.int .i64 (y1 - y0)]) (t := 3) (fr := (0, 0)) (heap_alloc_new w3 _)) (by simp [Value.oneCell'])
            (by decide) (by unfold maxLen; omega) (by omega) (by simp; omega) (w3.heap.size + 1) (by simp) ?_; intro gg cap w4 hown4 hgrow hat hlt))
      have hB4 : Below w1.heap.size w1 w4 := (pw_below_drewN (HB.out.alloc hsz3 _) 1).grown hgrow (by simp; omega) (fun jj ej => HGE.out jj ej)
      have HF := Lib.hid (And.intro (show OwnZ w4 w1.heap.size (.slice (some ⟨gg, 0, none⟩) (j + 1) cap) (sprL xs g (j + 1)) by rw [HG.out]; exact ownZ_app (HSL.out j) hown4) hB4)
      clear hown4 hgrow hat hlt hB4 hgi hgw hsw
      go_wp2
      go_roundg m
      case measure => omega
      case rel => exact ⟨j + 1, by rw [HJ.out]; go_num, by omega, HF.out⟩
theorem ref_spread_calls (A : Option Addr) (c : Nat) (xs : List Int) (G : Int) (w : World) (hx : IntsAt w A c xs) :
    Calls Tryz.prog 30 #[.slice A xs.length c, .int .i64 G] w (SprPost (sprV xs G) (sprT xs G) (sprE xs G) w) := by
  by_cases h : sprE xs G = 0
  · have hk := sprE_ok h
    unfold sprV sprT
    rw [if_pos h, if_pos h, h]
    obtain ⟨g, rfl⟩ : ∃ g : Nat, G = g := ⟨G.toNat, by omega⟩
    rw [Int.toNat_natCast]
    exact ref_spread_ok A c g xs w hx h
  · unfold sprV sprT
    rw [if_neg h, if_neg h]
    exact ref_spread_no A c xs G w hx h
end Go.Proofs.YtdkfebfedfemaaaGreatDoor
