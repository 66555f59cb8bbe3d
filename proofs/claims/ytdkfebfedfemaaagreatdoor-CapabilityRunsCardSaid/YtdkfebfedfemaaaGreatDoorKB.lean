/- capability: Spread. -/
import Derived.Test.YtdkfebfedfemaaaGreatDoorKA
set_option linter.unusedVariables false
set_option linter.unusedSimpArgs false
namespace Go.Proofs.YtdkfebfedfemaaaGreatDoor
open Go.RowKit Go.Mlab Go.Shelf
attribute [local go_sem] Oper.semAt_some

theorem foldl_max_le (c : Int) : ∀ (l : List Int) (a : Int), a ≤ c → (∀ x ∈ l, x ≤ c) → l.foldl max a ≤ c
  | [], a, h, _ => h
  | x :: l, a, h, hl => foldl_max_le c l (max a x) (Int.max_le.2 ⟨h, hl x (by simp)⟩) (fun y hy => hl y (by simp [hy]))
theorem le_foldl_max : ∀ (l : List Int) (a : Int), a ≤ l.foldl max a ∧ ∀ x ∈ l, x ≤ l.foldl max a
  | [], a => ⟨Int.le_refl _, by simp⟩
  | x :: l, a => by
    have h := le_foldl_max l (max a x)
    refine ⟨Int.le_trans (Int.le_max_left a x) h.1, fun y hy => ?_⟩
    rcases List.mem_cons.1 hy with rfl | hy
    · exact Int.le_trans (Int.le_max_right a y) h.1
    · exact h.2 y hy
theorem le_foldl_min (c : Int) : ∀ (l : List Int) (a : Int), c ≤ a → (∀ x ∈ l, c ≤ x) → c ≤ l.foldl min a
  | [], a, h, _ => h
  | x :: l, a, h, hl => le_foldl_min c l (min a x) (Int.le_min.2 ⟨h, hl x (by simp)⟩) (fun y hy => hl y (by simp [hy]))
theorem foldl_min_le : ∀ (l : List Int) (a : Int), l.foldl min a ≤ a ∧ ∀ x ∈ l, l.foldl min a ≤ x
  | [], a => ⟨Int.le_refl _, by simp⟩
  | x :: l, a => by
    have h := foldl_min_le l (min a x)
    refine ⟨Int.le_trans h.1 (Int.min_le_left a x), fun y hy => ?_⟩
    rcases List.mem_cons.1 hy with rfl | hy
    · exact Int.le_trans h.1 (Int.min_le_right a y)
    · exact h.2 y hy
theorem maxOf_ge {l : List Int} {x : Int} (h : x ∈ l) : x ≤ Lib.maxOf l := (le_foldl_max l _).2 x h
theorem minOf_le {l : List Int} {x : Int} (h : x ∈ l) : Lib.minOf l ≤ x := (foldl_min_le l _).2 x h
theorem headD_mem {l : List Int} (h : l ≠ []) : l.headD 0 ∈ l := by cases l with
  | nil => exact absurd rfl h
  | cons a l => simp
theorem maxOf_le {l : List Int} {c : Int} (h0 : l ≠ []) (h : ∀ x ∈ l, x ≤ c) : Lib.maxOf l ≤ c := foldl_max_le c l _ (h _ (headD_mem h0)) h
theorem le_minOf {l : List Int} {c : Int} (h0 : l ≠ []) (h : ∀ x ∈ l, c ≤ x) : c ≤ Lib.minOf l := le_foldl_min c l _ (h _ (headD_mem h0)) h
theorem min_le_max {l : List Int} (h0 : l ≠ []) : Lib.minOf l ≤ Lib.maxOf l := Int.le_trans (minOf_le (headD_mem h0)) (maxOf_ge (headD_mem h0))

/-- The greatest less the least of a group. -/
def wid (l : List Int) : Int := Lib.maxOf l - Lib.minOf l
def grp (xs : List Int) (g j : Nat) : List Int := (xs.drop (j * g)).take g
def sprL (xs : List Int) (g : Nat) (n : Nat) : List Int := (List.range n).map fun j => wid (grp xs g j)
theorem grp_len {xs : List Int} {g j : Nat} (h : (j + 1) * g ≤ xs.length) : (grp xs g j).length = g := by
  unfold grp; rw [List.length_take, List.length_drop]; rw [Nat.add_mul, Nat.one_mul] at h; omega
theorem grp_get {xs : List Int} {g j i : Nat} (h : (j + 1) * g ≤ xs.length) (hi : i < g) : (grp xs g j).getD i 0 = xs.getD (j * g + i) 0 := by
  unfold grp
  rw [List.getD_eq_getElem?_getD, List.getD_eq_getElem?_getD, List.getElem?_take_of_lt hi, List.getElem?_drop]
theorem grp_mem {xs : List Int} {g j : Nat} {x : Int} (h : x ∈ grp xs g j) : x ∈ xs := List.mem_of_mem_drop (List.mem_of_mem_take h)
theorem wid_bd {l : List Int} (h0 : l ≠ []) (h : ∀ x ∈ l, -1048576 ≤ x ∧ x ≤ 1048576) : 0 ≤ wid l ∧ wid l ≤ 2097152 := by
  have h1 := min_le_max h0
  have h2 := maxOf_le h0 (fun x hx => (h x hx).2)
  have h3 := le_minOf h0 (fun x hx => (h x hx).1)
  unfold wid; omega
def sprE (xs : List Int) (g : Int) : Int := if serE xs ≠ 0 then serE xs else if g < 2 ∨ 256 < g then 2 else if (xs.length : Int) < g then 14 else 0
def sprV (xs : List Int) (g : Int) : List Int := if sprE xs g = 0 then sprL xs g.toNat (xs.length / g.toNat) else []
def sprT (xs : List Int) (g : Int) : ByteArray := if sprE xs g = 0 then Q (avg (sprL xs g.toNat (xs.length / g.toNat))) else { data := #[] }
/-- What Spread answers. -/
def SprPost (ys : List Int) (t : ByteArray) (er : Int) (w : World) (e : Ending) (w' : World) : Prop := ∃ A c, e = .returned (.tuple #[.slice A ys.length c, .string t, .int .i64 er]) ∧ IntsAt w' A c ys ∧ Below w.heap.size w w'
/-- The append of one round, where the row lies beyond Chunk's variables and the variable before them. -/
theorem appended_kp {W w1 : World} {n1 n0 B : Nat} {t e : TypeId} {v v' : Value} {k m : Nat} {xs ys : List Value} {tmp : Obj}
    (hv : Boxed W B t v) (hte : t ≠ e) (hrow : W.ownsRow n0 e 1 v k xs) (hn0 : n0 ≤ W.heap.size) (hB : n1 ≤ B) (h10 : n1 ≤ n0)
    (hown' : w1.ownsRow n0 e 1 v' m ys) (hgrow : (W.alloc tmp).grownBy w1 v.ownBlock) :
    Boxed w1 B t v ∧ Boxed (w1.setCell ⟨B, 0, none⟩ v') B t v' ∧ (w1.setCell ⟨B, 0, none⟩ v').ownsRow n0 e 1 v' m ys ∧ KeepsOthers W (w1.setCell ⟨B, 0, none⟩ v') ∧ KpB n0 B W (w1.setCell ⟨B, 0, none⟩ v') ∧ Below n1 W (w1.setCell ⟨B, 0, none⟩ v') := by
  have hv1 : Boxed w1 B t v := (hv.alloc tmp).kept hgrow (hv.not_row hte hrow)
  have hob : ∀ j, v.ownBlock = some j → n0 ≤ j := fun j ej => by
    rcases hrow.2 with ⟨rfl, _⟩ | ⟨g, cap, cur, rfl, hb, _, _⟩
    · simp [Value.ownBlock] at ej
    · obtain rfl : g = j := by simpa [Value.ownBlock] using ej
      exact hb
  refine ⟨hv1, hv1.set v', hown'.kept (grownBy_setCell' w1 B v') (.inr (hv1.not_row hte hown').symm), ?_, ?_, ?_⟩
  · refine ((KeepsOthers.alloc W tmp).trans (KeepsOthers.of_grownBy hgrow fun j o ej hj => ?_)).trans (KeepsOthers.setCell _ _ _)
    rcases (hrow.alloc tmp).2 with ⟨rfl, _⟩ | ⟨g, cap, cur, rfl, _, hgb, _⟩
    · simp [Value.ownBlock] at ej
    · obtain rfl : g = j := by simpa [Value.ownBlock] using ej
      rw [hgb] at hj; cases hj; rfl
  · intro i hi hne
    refine (Below.heap_setCell w1 ⟨B, 0, none⟩ v' i (fun e => hne e)).trans ?_
    refine (hgrow.block i (by simp; omega) (fun e => ?_)).trans (Below.heap_alloc W tmp i (by omega))
    have := hob i e.symm; omega
  · exact (((Below.refl n1 W).alloc (by omega) tmp).grown hgrow (by simp; omega) fun j ej => Nat.le_trans h10 (hob j ej)).setCell (p := ⟨B, 0, none⟩) hB v'

theorem ints_putObj {w : World} {A : Option Addr} {c : Nat} {xs : List Int} (h : IntsAt w A c xs) {D : Nat} {d : Option (List Deferred)} {o' : Obj} (hD : w.heap[D]? = some (.deferred d)) : IntsAt (w.putObj D o') A c xs := by
  refine ⟨h.cap, h.big, h.at_.imp id ?_⟩
  rintro ⟨b, i, e, hb, hc⟩
  by_cases hx : xs = []
  · refine ⟨b, i, e, ?_, fun j hj => by rw [hx] at hj; simp at hj⟩
    have := (grownBy_putObj' w D o').size; omega
  · have hne : b ≠ D := by
      rintro rfl
      have h0 := hc 0 (by cases xs with
        | nil => exact absurd rfl hx
        | cons a l => simp)
      simp only [World.cell?, hD] at h0
      exact absurd h0 (by simp)
    refine ⟨b, i, e, ?_, fun j hj => ?_⟩
    · have := (grownBy_putObj' w D o').size; omega
    · rw [← hc j hj]; simp only [World.cell?]; rw [World.putObj_heap_other hne]
theorem wrap_nat {q : Nat} (h : q ≤ 4096) : wrap64 (q : Int) = (q : Int) := IntWalk.wrap64_in _ ⟨by omega, by omega⟩
set_option maxRecDepth 100000 in
set_option maxHeartbeats 4000000 in
theorem spread_ok (b o c g q m : Nat) (xs : List Int) (w : World) (hx : IntsAt w (some ⟨b, o, none⟩) c xs) (hT : Tab w) (hE : serE xs = 0) (hg : 2 ≤ g) (hg2 : g ≤ 256) (hgl : g ≤ xs.length) (hq : xs.length / g = q) (hm : q * g = m) :
    Calls Tryz.prog 29 #[.slice (some ⟨b, o, none⟩) xs.length c, .int .i64 g] w (SprPost (sprL xs g q) (Q (avg (sprL xs g q))) 0 w) := by
  obtain ⟨i0, hi, hz0, hz1, hz2⟩ := info_parts int_parts
  have hok := serE_ok hE
  have hl4 := hok.2.1
  have hml : m ≤ xs.length := by rw [← hm, ← hq]; exact Nat.div_mul_le_self _ _
  have hq0 : 1 ≤ q := by rw [← hq]; exact Nat.div_pos hgl (by omega)
  have hcap := hx.cap
  have hbl : b < w.heap.size := ints_lt hx hok.1
  have HC := Lib.hid (cap_check_calls (some ⟨b, o, none⟩) c xs w hx)
  rw [hE] at HC
  have HX := Lib.hid hx
  have HV := Lib.hid hok.2.2
  have HT := Lib.hid hT
  have HG := Lib.hid (show ∀ j, j < q → (j + 1) * g ≤ xs.length from fun j hj => Nat.le_trans (by rw [← hm]; exact Nat.mul_le_mul_right _ hj) hml)
  have HM := Lib.hid hm
  have HQ := Lib.hid hq
  obtain ⟨n, hn⟩ : ∃ n, xs.length = n := ⟨_, rfl⟩
  rw [hn] at hl4 hml hgl hcap HC hq ⊢
  have Hn := Lib.hid hn
  have Hq := Lib.hid hq
  clear hq hm hn
  have b1' : decide ((g : Int) < 2) = false := decide_eq_false (by omega)
  have b2' : decide (256 < (g : Int)) = false := decide_eq_false (by omega)
  have b3' : decide (n < g) = false := decide_eq_false (by omega)
  have hmc : (m : Int) ≤ (c : Int) := Int.ofNat_le.2 (Nat.le_trans hml hcap)
  have hq4 : q ≤ 4096 := Nat.le_trans (by rw [← Hq.out]; exact Nat.div_le_self _ _) hl4
  have hqi : (n : Int) / (g : Int) = (q : Int) := by rw [← Hq.out]; rfl
  have hmi : (q : Int) * (g : Int) = (m : Int) := by rw [← HM.out]; exact (Int.natCast_mul _ _).symm
  have HQI := Lib.hid (And.intro hqi hmi)
  have w1' : wrap64 ((n : Int) / (g : Int)) = (q : Int) := by rw [hqi]; exact wrap_nat (Nat.le_trans (by rw [← Hq.out]; exact Nat.div_le_self _ _) hl4)
  have w2' : wrap64 ((q : Int) * (g : Int)) = (m : Int) := by rw [hmi]; exact wrap_nat (Nat.le_trans hml hl4)
  clear hx hT hE hok hqi hmi
  refine (callsIn_wide (n := 3)).1 ?_
  refine callsIn_of_wp_marks Tryz.func29 rfl trivial ?_ rfl
  simp only [Tryz.ntmps29, List.size_toArray, List.length_cons, List.length_nil, Nat.reduceAdd, Nat.reduceSub, Array.replicate_succ, Array.replicate_zero, List.push_toArray, List.append_toArray, List.nil_append, List.cons_append]
  gi_wp2_with (refine ⟨trivial, ?_⟩; gi_at_call 18; refine (callsIn_wide.2 HC.out).mono ?_; rintro e w1 ⟨rfl, rfl⟩)
  obtain ⟨W1, hW1⟩ : ∃ W1, w1.alloc (.cells #[.slice none 0 0] 22) = W1 := ⟨_, rfl⟩
  have hB1 : Below w1.heap.size w1 W1 := by rw [← hW1]; exact (Below.refl _ _).alloc (Nat.le_refl _) _
  have hS1 : W1.heap.size = w1.heap.size + 1 := by rw [← hW1]; simp
  have bO : Boxed W1 w1.heap.size 22 (.slice none 0 0) := by rw [← hW1]; exact Boxed.new _ _ _
  rw [hW1]
  refine ⟨trivial, ?_⟩
  refine (callsIn_wide.2 (chunk_calls _ _ _ _ (by omega) _)).mono ?_
  rintro e w2 ⟨rfl, hW2⟩
  have hseq := chunk_seq b o c q g m w1.heap.size HM.out (by omega) (by omega) hg hg2 W1 (by omega)
  have hB2 := chunkW_below (some ⟨b, o, none⟩) m c g W1
  have hS2 := chunkW_size (some ⟨b, o, none⟩) m c g W1
  rw [hW2] at hseq hB2 hS2
  have bO2 : Boxed w2 w1.heap.size 22 (.slice none 0 0) := (hB2.block _ (by omega)).trans bO
  have hB12 : Below w1.heap.size w1 w2 := below_below hB1 hB1.size hB2
  clear hW1 hW2 bO hB2
  rw [hS1] at hseq hS2 ⊢
  have hA1 := Lib.hid hB1
  have HS := Lib.hid (And.intro hS1 hS2)
  clear hB1 hS1 hS2
  gi_wp2
  have hS2 := HS.out.2
  refine wpIn_rangeFunc_ownG rfl (by omega) (gf := 97) (lb := #[.pointer (some ⟨w1.heap.size + 1, 0, none⟩), .pointer (some ⟨w1.heap.size + 1 + 1, 0, none⟩)]) rfl trivial enters97 hseq KpB.trans (kpB_b (by omega)) (Below.refl _ _) (fun _ => rfl)
    (fun pre W => (∃ v, Boxed W w1.heap.size 22 v ∧ W.ownsRow w2.heap.size 3 1 v pre.length (pre.map fun j => Value.int .i64 (wid (grp xs g (clq q j)))) ∧ (v = .slice none 0 0 ↔ pre = [])) ∧ Below w1.heap.size w1 W ∧ w2.heap.size ≤ W.heap.size)
    (fun _ _ _ => False)
    (OwnFrom.and (Own.from (holdsRow_own w2.heap.size w1.heap.size 22 3 1 (fun pre : List Nat => pre.length) (fun pre => pre.map fun j => Value.int .i64 (wid (grp xs g (clq q j)))) (fun pre v => v = .slice none 0 0 ↔ pre = [])) _) (OwnFrom.and (ownFrom_below (Nat.le_refl _) (by omega)) (fun _ _ _ _ h hg _ => Nat.le_trans h hg.size)))
    (fun _ _ _ _ _ hs _ _ => hs)
    ⟨⟨_, bO2, World.ownsRow_nil _ _ _ _, by simp⟩, hB12, Nat.le_refl _⟩
    (fun x => { tmps := #[.slice (some ⟨b, o, none⟩) n c, .int .i64 g, undef, undef, .slice none 0 0, .string { data := #[] }, .int .i64 0, .int .i64 0, .pointer (some ⟨w1.heap.size, 0, none⟩), chunkV b o g q x, undef, undef, .slice (some ⟨b, o, none⟩) n c, .int .i64 0, .int .i64 0, .bool false, undef, .bool false, .int .i64 g, .bool false, .bool false, .int .i64 g, .bool false, .bool false, .bool false, .slice (some ⟨b, o, none⟩) n c, .int .i64 n, .int .i64 g, .bool false, .slice (some ⟨b, o, none⟩) n c, .slice (some ⟨b, o, none⟩) n c, .int .i64 n, .int .i64 g, .int .i64 q, .int .i64 g, .int .i64 m, .slice (some ⟨b, o, none⟩) m c, .int .i64 g, .func (.func 97) #[] #[.pointer (some ⟨w1.heap.size + 1, 0, none⟩), .pointer (some ⟨w1.heap.size + 1 + 1, 0, none⟩)], chunkV b o g q x, undef, undef, undef, undef, undef, undef, undef, undef, undef, undef, undef, undef, undef, undef, undef, undef, undef, undef], defers := [] }) ?assign ?body ?done ?stop
  case assign =>
    intro l x W K hK
    unfold chunkV at hK ⊢
    gi_wp2
    exact hK
  case body =>
    rintro l pre x W ⟨⟨v, hv, hrow, hnil⟩, hB, hsz⟩ hlt
    have hxq := clq_lt (x := x) hq0
    unfold chunkV
    have hgl2 := HG.out _ hxq
    have hgr := grp_len hgl2
    have hcells : ∀ j, j < (grp xs g (clq q x)).length → W.cell? ⟨b, o + clq q x * g + j, none⟩ = some (.int .i64 ((grp xs g (clq q x)).getD j 0)) := by
      intro j hj
      rw [hgr] at hj
      obtain ⟨b', o', e, hc⟩ := ints_get (ints_below HX.out hB) (i := clq q x * g + j) (by rw [Nat.add_mul, Nat.one_mul] at hgl2; omega)
      cases e
      rw [grp_get hgl2 hj, Nat.add_assoc]; exact hc
    have HMx := slices_Max_int b (o + clq q x * g) g g (grp xs g (clq q x)) W.drew (by omega) (by omega) (by omega) hcells
    have HMn := slices_Min_int b (o + clq q x * g) g g (grp xs g (clq q x)) W.drew (by omega) (by omega) (by omega) hcells
    rw [show (grp xs g (clq q x)).take g = grp xs g (clq q x) by rw [List.take_of_length_le (by omega)]] at HMx HMn
    have hwb := wid_bd (l := grp xs g (clq q x)) (by intro e; rw [e] at hgr; simp at hgr; omega) (fun y hy => HV.out y (grp_mem hy))
    have HW := Lib.hid (show Lib.maxOf (grp xs g (clq q x)) - Lib.minOf (grp xs g (clq q x)) = wid (grp xs g (clq q x)) from rfl)
    have HMX := Lib.hid HMx
    have HMN := Lib.hid HMn
    clear hcells hgr hgl2 HMx HMn
    generalize hz : wid (grp xs g (clq q x)) = z at *
    generalize Lib.maxOf (grp xs g (clq q x)) = mx at *
    generalize Lib.minOf (grp xs g (clq q x)) = mn at *
    have HZ := Lib.hid hz
    clear hz
    generalize o + clq q x * g = ox at *
    have hc := hv.cell
    have hc2 := (hv.alloc (.cells #[.int .i64 z] 3)).cell
    have hzw : wrap64 (mx - mn) = z := by rw [HW.out]; exact IntWalk.wrap64_in _ ⟨by omega, by omega⟩
    have hzw2 : IntKind.i64.wrap (mx - mn) = z := by rw [HW.out]; exact Go.IntWalk.i64_in _ ⟨by omega, by omega⟩
    gi_wp2
    refine wpIn_region_any (by kernel_rfl) ?_
    change wpAnyIn _ _ _ _ _ _ _ _ _ (World.drew _)
    refine (show ?G → _ from fun fin => ?orders) ?fin
    case orders =>
      refine wpAnyIn_ready (rs := [0, 1, 3]) (by kernel_rfl) (by simp) ?_
      refine AllReadyIn.cons rfl (fun K hK => ?_) ?_
      · go_simp
        refine hK _ _ ?_
        clear hK K
        refine wpAnyIn_ready (rs := [1, 3]) (by kernel_rfl) (by simp) ?_
        refine AllReadyIn.cons rfl (fun K hK => ?_) ?_
        · go_simp
          refine hK _ _ ?_
          clear hK K
          refine wpAnyIn_ready (rs := [2, 3]) (by kernel_rfl) (by simp) ?_
          refine AllReadyIn.cons rfl (fun K hK => ?_) ?_
          · go_simp
            gi_wp2_with (refine ⟨trivial, ?_⟩; gi_at_call 36; refine (CallsIn.inRound l (callsIn_wide.2 HMX.out)).mono ?_; rintro e w' ⟨rfl, rfl⟩)
            refine wpAnyIn_ready (rs := [3]) (by kernel_rfl) (by simp) ?_
            refine AllReadyIn.cons rfl (fun K hK => ?_) ?_
            · go_simp
              refine hK _ _ ?_
              clear hK K
              refine wpAnyIn_ready (rs := [4]) (by kernel_rfl) (by simp) ?_
              refine AllReadyIn.cons rfl (fun K hK => ?_) ?_
              · go_simp
                gi_wp2_with (refine ⟨trivial, ?_⟩; gi_at_call 37; refine (CallsIn.inRound l (callsIn_wide.2 HMN.out)).mono ?_; rintro e w' ⟨rfl, rfl⟩)
                refine wpAnyIn_ready (rs := [5]) (by kernel_rfl) (by simp) ?_
                refine AllReadyIn.cons rfl (fun K hK => ?_) ?_
                · go_simp
                  refine hK _ _ ?_
                  clear hK K
                  refine wpAnyIn_ready (rs := [6]) (by kernel_rfl) (by simp) ?_
                  refine AllReadyIn.cons rfl (fun K hK => ?_) ?_
                  · go_simp
                    refine hK _ _ ?_
                    clear hK K
                    exact fin
                  exact AllReadyIn.nil
                exact AllReadyIn.nil
              exact AllReadyIn.nil
            exact AllReadyIn.nil
          refine AllReadyIn.cons rfl (fun K hK => ?_) ?_
          · go_simp
            refine hK _ _ ?_
            clear hK K
            refine wpAnyIn_ready (rs := [2]) (by kernel_rfl) (by simp) ?_
            refine AllReadyIn.cons rfl (fun K hK => ?_) ?_
            · go_simp
              gi_wp2_with (refine ⟨trivial, ?_⟩; gi_at_call 36; refine (CallsIn.inRound l (callsIn_wide.2 HMX.out)).mono ?_; rintro e w' ⟨rfl, rfl⟩)
              refine wpAnyIn_ready (rs := [4]) (by kernel_rfl) (by simp) ?_
              refine AllReadyIn.cons rfl (fun K hK => ?_) ?_
              · go_simp
                gi_wp2_with (refine ⟨trivial, ?_⟩; gi_at_call 37; refine (CallsIn.inRound l (callsIn_wide.2 HMN.out)).mono ?_; rintro e w' ⟨rfl, rfl⟩)
                refine wpAnyIn_ready (rs := [5]) (by kernel_rfl) (by simp) ?_
                refine AllReadyIn.cons rfl (fun K hK => ?_) ?_
                · go_simp
                  refine hK _ _ ?_
                  clear hK K
                  refine wpAnyIn_ready (rs := [6]) (by kernel_rfl) (by simp) ?_
                  refine AllReadyIn.cons rfl (fun K hK => ?_) ?_
                  · go_simp
                    refine hK _ _ ?_
                    clear hK K
                    exact fin
                  exact AllReadyIn.nil
                exact AllReadyIn.nil
              exact AllReadyIn.nil
            exact AllReadyIn.nil
          exact AllReadyIn.nil
        refine AllReadyIn.cons rfl (fun K hK => ?_) ?_
        · go_simp
          refine hK _ _ ?_
          clear hK K
          refine wpAnyIn_ready (rs := [1]) (by kernel_rfl) (by simp) ?_
          refine AllReadyIn.cons rfl (fun K hK => ?_) ?_
          · go_simp
            refine hK _ _ ?_
            clear hK K
            refine wpAnyIn_ready (rs := [2]) (by kernel_rfl) (by simp) ?_
            refine AllReadyIn.cons rfl (fun K hK => ?_) ?_
            · go_simp
              gi_wp2_with (refine ⟨trivial, ?_⟩; gi_at_call 36; refine (CallsIn.inRound l (callsIn_wide.2 HMX.out)).mono ?_; rintro e w' ⟨rfl, rfl⟩)
              refine wpAnyIn_ready (rs := [4]) (by kernel_rfl) (by simp) ?_
              refine AllReadyIn.cons rfl (fun K hK => ?_) ?_
              · go_simp
                gi_wp2_with (refine ⟨trivial, ?_⟩; gi_at_call 37; refine (CallsIn.inRound l (callsIn_wide.2 HMN.out)).mono ?_; rintro e w' ⟨rfl, rfl⟩)
                refine wpAnyIn_ready (rs := [5]) (by kernel_rfl) (by simp) ?_
                refine AllReadyIn.cons rfl (fun K hK => ?_) ?_
                · go_simp
                  refine hK _ _ ?_
                  clear hK K
                  refine wpAnyIn_ready (rs := [6]) (by kernel_rfl) (by simp) ?_
                  refine AllReadyIn.cons rfl (fun K hK => ?_) ?_
                  · go_simp
                    refine hK _ _ ?_
                    clear hK K
                    exact fin
                  exact AllReadyIn.nil
                exact AllReadyIn.nil
              exact AllReadyIn.nil
            exact AllReadyIn.nil
          exact AllReadyIn.nil
        exact AllReadyIn.nil
      refine AllReadyIn.cons rfl (fun K hK => ?_) ?_
      · go_simp
        refine hK _ _ ?_
        clear hK K
        refine wpAnyIn_ready (rs := [0, 2, 3]) (by kernel_rfl) (by simp) ?_
        refine AllReadyIn.cons rfl (fun K hK => ?_) ?_
        · go_simp
          refine hK _ _ ?_
          clear hK K
          refine wpAnyIn_ready (rs := [2, 3]) (by kernel_rfl) (by simp) ?_
          refine AllReadyIn.cons rfl (fun K hK => ?_) ?_
          · go_simp
            gi_wp2_with (refine ⟨trivial, ?_⟩; gi_at_call 36; refine (CallsIn.inRound l (callsIn_wide.2 HMX.out)).mono ?_; rintro e w' ⟨rfl, rfl⟩)
            refine wpAnyIn_ready (rs := [3]) (by kernel_rfl) (by simp) ?_
            refine AllReadyIn.cons rfl (fun K hK => ?_) ?_
            · go_simp
              refine hK _ _ ?_
              clear hK K
              refine wpAnyIn_ready (rs := [4]) (by kernel_rfl) (by simp) ?_
              refine AllReadyIn.cons rfl (fun K hK => ?_) ?_
              · go_simp
                gi_wp2_with (refine ⟨trivial, ?_⟩; gi_at_call 37; refine (CallsIn.inRound l (callsIn_wide.2 HMN.out)).mono ?_; rintro e w' ⟨rfl, rfl⟩)
                refine wpAnyIn_ready (rs := [5]) (by kernel_rfl) (by simp) ?_
                refine AllReadyIn.cons rfl (fun K hK => ?_) ?_
                · go_simp
                  refine hK _ _ ?_
                  clear hK K
                  refine wpAnyIn_ready (rs := [6]) (by kernel_rfl) (by simp) ?_
                  refine AllReadyIn.cons rfl (fun K hK => ?_) ?_
                  · go_simp
                    refine hK _ _ ?_
                    clear hK K
                    exact fin
                  exact AllReadyIn.nil
                exact AllReadyIn.nil
              exact AllReadyIn.nil
            exact AllReadyIn.nil
          refine AllReadyIn.cons rfl (fun K hK => ?_) ?_
          · go_simp
            refine hK _ _ ?_
            clear hK K
            refine wpAnyIn_ready (rs := [2]) (by kernel_rfl) (by simp) ?_
            refine AllReadyIn.cons rfl (fun K hK => ?_) ?_
            · go_simp
              gi_wp2_with (refine ⟨trivial, ?_⟩; gi_at_call 36; refine (CallsIn.inRound l (callsIn_wide.2 HMX.out)).mono ?_; rintro e w' ⟨rfl, rfl⟩)
              refine wpAnyIn_ready (rs := [4]) (by kernel_rfl) (by simp) ?_
              refine AllReadyIn.cons rfl (fun K hK => ?_) ?_
              · go_simp
                gi_wp2_with (refine ⟨trivial, ?_⟩; gi_at_call 37; refine (CallsIn.inRound l (callsIn_wide.2 HMN.out)).mono ?_; rintro e w' ⟨rfl, rfl⟩)
                refine wpAnyIn_ready (rs := [5]) (by kernel_rfl) (by simp) ?_
                refine AllReadyIn.cons rfl (fun K hK => ?_) ?_
                · go_simp
                  refine hK _ _ ?_
                  clear hK K
                  refine wpAnyIn_ready (rs := [6]) (by kernel_rfl) (by simp) ?_
                  refine AllReadyIn.cons rfl (fun K hK => ?_) ?_
                  · go_simp
                    refine hK _ _ ?_
                    clear hK K
                    exact fin
                  exact AllReadyIn.nil
                exact AllReadyIn.nil
              exact AllReadyIn.nil
            exact AllReadyIn.nil
          exact AllReadyIn.nil
        refine AllReadyIn.cons rfl (fun K hK => ?_) ?_
        · go_simp
          gi_wp2_with (refine ⟨trivial, ?_⟩; gi_at_call 36; refine (CallsIn.inRound l (callsIn_wide.2 HMX.out)).mono ?_; rintro e w' ⟨rfl, rfl⟩)
          refine wpAnyIn_ready (rs := [0, 3]) (by kernel_rfl) (by simp) ?_
          refine AllReadyIn.cons rfl (fun K hK => ?_) ?_
          · go_simp
            refine hK _ _ ?_
            clear hK K
            refine wpAnyIn_ready (rs := [3]) (by kernel_rfl) (by simp) ?_
            refine AllReadyIn.cons rfl (fun K hK => ?_) ?_
            · go_simp
              refine hK _ _ ?_
              clear hK K
              refine wpAnyIn_ready (rs := [4]) (by kernel_rfl) (by simp) ?_
              refine AllReadyIn.cons rfl (fun K hK => ?_) ?_
              · go_simp
                gi_wp2_with (refine ⟨trivial, ?_⟩; gi_at_call 37; refine (CallsIn.inRound l (callsIn_wide.2 HMN.out)).mono ?_; rintro e w' ⟨rfl, rfl⟩)
                refine wpAnyIn_ready (rs := [5]) (by kernel_rfl) (by simp) ?_
                refine AllReadyIn.cons rfl (fun K hK => ?_) ?_
                · go_simp
                  refine hK _ _ ?_
                  clear hK K
                  refine wpAnyIn_ready (rs := [6]) (by kernel_rfl) (by simp) ?_
                  refine AllReadyIn.cons rfl (fun K hK => ?_) ?_
                  · go_simp
                    refine hK _ _ ?_
                    clear hK K
                    exact fin
                  exact AllReadyIn.nil
                exact AllReadyIn.nil
              exact AllReadyIn.nil
            exact AllReadyIn.nil
          refine AllReadyIn.cons rfl (fun K hK => ?_) ?_
          · go_simp
            refine hK _ _ ?_
            clear hK K
            refine wpAnyIn_ready (rs := [0, 4]) (by kernel_rfl) (by simp) ?_
            refine AllReadyIn.cons rfl (fun K hK => ?_) ?_
            · go_simp
              refine hK _ _ ?_
              clear hK K
              refine wpAnyIn_ready (rs := [4]) (by kernel_rfl) (by simp) ?_
              refine AllReadyIn.cons rfl (fun K hK => ?_) ?_
              · go_simp
                gi_wp2_with (refine ⟨trivial, ?_⟩; gi_at_call 37; refine (CallsIn.inRound l (callsIn_wide.2 HMN.out)).mono ?_; rintro e w' ⟨rfl, rfl⟩)
                refine wpAnyIn_ready (rs := [5]) (by kernel_rfl) (by simp) ?_
                refine AllReadyIn.cons rfl (fun K hK => ?_) ?_
                · go_simp
                  refine hK _ _ ?_
                  clear hK K
                  refine wpAnyIn_ready (rs := [6]) (by kernel_rfl) (by simp) ?_
                  refine AllReadyIn.cons rfl (fun K hK => ?_) ?_
                  · go_simp
                    refine hK _ _ ?_
                    clear hK K
                    exact fin
                  exact AllReadyIn.nil
                exact AllReadyIn.nil
              exact AllReadyIn.nil
            refine AllReadyIn.cons rfl (fun K hK => ?_) ?_
            · go_simp
              gi_wp2_with (refine ⟨trivial, ?_⟩; gi_at_call 37; refine (CallsIn.inRound l (callsIn_wide.2 HMN.out)).mono ?_; rintro e w' ⟨rfl, rfl⟩)
              refine wpAnyIn_ready (rs := [0, 5]) (by kernel_rfl) (by simp) ?_
              refine AllReadyIn.cons rfl (fun K hK => ?_) ?_
              · go_simp
                refine hK _ _ ?_
                clear hK K
                refine wpAnyIn_ready (rs := [5]) (by kernel_rfl) (by simp) ?_
                refine AllReadyIn.cons rfl (fun K hK => ?_) ?_
                · go_simp
                  refine hK _ _ ?_
                  clear hK K
                  refine wpAnyIn_ready (rs := [6]) (by kernel_rfl) (by simp) ?_
                  refine AllReadyIn.cons rfl (fun K hK => ?_) ?_
                  · go_simp
                    refine hK _ _ ?_
                    clear hK K
                    exact fin
                  exact AllReadyIn.nil
                exact AllReadyIn.nil
              refine AllReadyIn.cons rfl (fun K hK => ?_) ?_
              · go_simp
                refine hK _ _ ?_
                clear hK K
                refine wpAnyIn_ready (rs := [0, 6]) (by kernel_rfl) (by simp) ?_
                refine AllReadyIn.cons rfl (fun K hK => ?_) ?_
                · go_simp
                  refine hK _ _ ?_
                  clear hK K
                  refine wpAnyIn_ready (rs := [6]) (by kernel_rfl) (by simp) ?_
                  refine AllReadyIn.cons rfl (fun K hK => ?_) ?_
                  · go_simp
                    refine hK _ _ ?_
                    clear hK K
                    exact fin
                  exact AllReadyIn.nil
                refine AllReadyIn.cons rfl (fun K hK => ?_) ?_
                · go_simp
                  refine hK _ _ ?_
                  clear hK K
                  refine wpAnyIn_ready (rs := [0]) (by kernel_rfl) (by simp) ?_
                  refine AllReadyIn.cons rfl (fun K hK => ?_) ?_
                  · go_simp
                    refine hK _ _ ?_
                    clear hK K
                    exact fin
                  exact AllReadyIn.nil
                exact AllReadyIn.nil
              exact AllReadyIn.nil
            exact AllReadyIn.nil
          exact AllReadyIn.nil
        refine AllReadyIn.cons rfl (fun K hK => ?_) ?_
        · go_simp
          refine hK _ _ ?_
          clear hK K
          refine wpAnyIn_ready (rs := [0, 2]) (by kernel_rfl) (by simp) ?_
          refine AllReadyIn.cons rfl (fun K hK => ?_) ?_
          · go_simp
            refine hK _ _ ?_
            clear hK K
            refine wpAnyIn_ready (rs := [2]) (by kernel_rfl) (by simp) ?_
            refine AllReadyIn.cons rfl (fun K hK => ?_) ?_
            · go_simp
              gi_wp2_with (refine ⟨trivial, ?_⟩; gi_at_call 36; refine (CallsIn.inRound l (callsIn_wide.2 HMX.out)).mono ?_; rintro e w' ⟨rfl, rfl⟩)
              refine wpAnyIn_ready (rs := [4]) (by kernel_rfl) (by simp) ?_
              refine AllReadyIn.cons rfl (fun K hK => ?_) ?_
              · go_simp
                gi_wp2_with (refine ⟨trivial, ?_⟩; gi_at_call 37; refine (CallsIn.inRound l (callsIn_wide.2 HMN.out)).mono ?_; rintro e w' ⟨rfl, rfl⟩)
                refine wpAnyIn_ready (rs := [5]) (by kernel_rfl) (by simp) ?_
                refine AllReadyIn.cons rfl (fun K hK => ?_) ?_
                · go_simp
                  refine hK _ _ ?_
                  clear hK K
                  refine wpAnyIn_ready (rs := [6]) (by kernel_rfl) (by simp) ?_
                  refine AllReadyIn.cons rfl (fun K hK => ?_) ?_
                  · go_simp
                    refine hK _ _ ?_
                    clear hK K
                    exact fin
                  exact AllReadyIn.nil
                exact AllReadyIn.nil
              exact AllReadyIn.nil
            exact AllReadyIn.nil
          refine AllReadyIn.cons rfl (fun K hK => ?_) ?_
          · go_simp
            gi_wp2_with (refine ⟨trivial, ?_⟩; gi_at_call 36; refine (CallsIn.inRound l (callsIn_wide.2 HMX.out)).mono ?_; rintro e w' ⟨rfl, rfl⟩)
            refine wpAnyIn_ready (rs := [0, 4]) (by kernel_rfl) (by simp) ?_
            refine AllReadyIn.cons rfl (fun K hK => ?_) ?_
            · go_simp
              refine hK _ _ ?_
              clear hK K
              refine wpAnyIn_ready (rs := [4]) (by kernel_rfl) (by simp) ?_
              refine AllReadyIn.cons rfl (fun K hK => ?_) ?_
              · go_simp
                gi_wp2_with (refine ⟨trivial, ?_⟩; gi_at_call 37; refine (CallsIn.inRound l (callsIn_wide.2 HMN.out)).mono ?_; rintro e w' ⟨rfl, rfl⟩)
                refine wpAnyIn_ready (rs := [5]) (by kernel_rfl) (by simp) ?_
                refine AllReadyIn.cons rfl (fun K hK => ?_) ?_
                · go_simp
                  refine hK _ _ ?_
                  clear hK K
                  refine wpAnyIn_ready (rs := [6]) (by kernel_rfl) (by simp) ?_
                  refine AllReadyIn.cons rfl (fun K hK => ?_) ?_
                  · go_simp
                    refine hK _ _ ?_
                    clear hK K
                    exact fin
                  exact AllReadyIn.nil
                exact AllReadyIn.nil
              exact AllReadyIn.nil
            refine AllReadyIn.cons rfl (fun K hK => ?_) ?_
            · go_simp
              gi_wp2_with (refine ⟨trivial, ?_⟩; gi_at_call 37; refine (CallsIn.inRound l (callsIn_wide.2 HMN.out)).mono ?_; rintro e w' ⟨rfl, rfl⟩)
              refine wpAnyIn_ready (rs := [0, 5]) (by kernel_rfl) (by simp) ?_
              refine AllReadyIn.cons rfl (fun K hK => ?_) ?_
              · go_simp
                refine hK _ _ ?_
                clear hK K
                refine wpAnyIn_ready (rs := [5]) (by kernel_rfl) (by simp) ?_
                refine AllReadyIn.cons rfl (fun K hK => ?_) ?_
                · go_simp
                  refine hK _ _ ?_
                  clear hK K
                  refine wpAnyIn_ready (rs := [6]) (by kernel_rfl) (by simp) ?_
                  refine AllReadyIn.cons rfl (fun K hK => ?_) ?_
                  · go_simp
                    refine hK _ _ ?_
                    clear hK K
                    exact fin
                  exact AllReadyIn.nil
                exact AllReadyIn.nil
              refine AllReadyIn.cons rfl (fun K hK => ?_) ?_
              · go_simp
                refine hK _ _ ?_
                clear hK K
                refine wpAnyIn_ready (rs := [0, 6]) (by kernel_rfl) (by simp) ?_
                refine AllReadyIn.cons rfl (fun K hK => ?_) ?_
                · go_simp
                  refine hK _ _ ?_
                  clear hK K
                  refine wpAnyIn_ready (rs := [6]) (by kernel_rfl) (by simp) ?_
                  refine AllReadyIn.cons rfl (fun K hK => ?_) ?_
                  · go_simp
                    refine hK _ _ ?_
                    clear hK K
                    exact fin
                  exact AllReadyIn.nil
                refine AllReadyIn.cons rfl (fun K hK => ?_) ?_
                · go_simp
                  refine hK _ _ ?_
                  clear hK K
                  refine wpAnyIn_ready (rs := [0]) (by kernel_rfl) (by simp) ?_
                  refine AllReadyIn.cons rfl (fun K hK => ?_) ?_
                  · go_simp
                    refine hK _ _ ?_
                    clear hK K
                    exact fin
                  exact AllReadyIn.nil
                exact AllReadyIn.nil
              exact AllReadyIn.nil
            exact AllReadyIn.nil
          exact AllReadyIn.nil
        exact AllReadyIn.nil
      refine AllReadyIn.cons rfl (fun K hK => ?_) ?_
      · go_simp
        refine hK _ _ ?_
        clear hK K
        refine wpAnyIn_ready (rs := [0, 1]) (by kernel_rfl) (by simp) ?_
        refine AllReadyIn.cons rfl (fun K hK => ?_) ?_
        · go_simp
          refine hK _ _ ?_
          clear hK K
          refine wpAnyIn_ready (rs := [1]) (by kernel_rfl) (by simp) ?_
          refine AllReadyIn.cons rfl (fun K hK => ?_) ?_
          · go_simp
            refine hK _ _ ?_
            clear hK K
            refine wpAnyIn_ready (rs := [2]) (by kernel_rfl) (by simp) ?_
            refine AllReadyIn.cons rfl (fun K hK => ?_) ?_
            · go_simp
              gi_wp2_with (refine ⟨trivial, ?_⟩; gi_at_call 36; refine (CallsIn.inRound l (callsIn_wide.2 HMX.out)).mono ?_; rintro e w' ⟨rfl, rfl⟩)
              refine wpAnyIn_ready (rs := [4]) (by kernel_rfl) (by simp) ?_
              refine AllReadyIn.cons rfl (fun K hK => ?_) ?_
              · go_simp
                gi_wp2_with (refine ⟨trivial, ?_⟩; gi_at_call 37; refine (CallsIn.inRound l (callsIn_wide.2 HMN.out)).mono ?_; rintro e w' ⟨rfl, rfl⟩)
                refine wpAnyIn_ready (rs := [5]) (by kernel_rfl) (by simp) ?_
                refine AllReadyIn.cons rfl (fun K hK => ?_) ?_
                · go_simp
                  refine hK _ _ ?_
                  clear hK K
                  refine wpAnyIn_ready (rs := [6]) (by kernel_rfl) (by simp) ?_
                  refine AllReadyIn.cons rfl (fun K hK => ?_) ?_
                  · go_simp
                    refine hK _ _ ?_
                    clear hK K
                    exact fin
                  exact AllReadyIn.nil
                exact AllReadyIn.nil
              exact AllReadyIn.nil
            exact AllReadyIn.nil
          exact AllReadyIn.nil
        refine AllReadyIn.cons rfl (fun K hK => ?_) ?_
        · go_simp
          refine hK _ _ ?_
          clear hK K
          refine wpAnyIn_ready (rs := [0, 2]) (by kernel_rfl) (by simp) ?_
          refine AllReadyIn.cons rfl (fun K hK => ?_) ?_
          · go_simp
            refine hK _ _ ?_
            clear hK K
            refine wpAnyIn_ready (rs := [2]) (by kernel_rfl) (by simp) ?_
            refine AllReadyIn.cons rfl (fun K hK => ?_) ?_
            · go_simp
              gi_wp2_with (refine ⟨trivial, ?_⟩; gi_at_call 36; refine (CallsIn.inRound l (callsIn_wide.2 HMX.out)).mono ?_; rintro e w' ⟨rfl, rfl⟩)
              refine wpAnyIn_ready (rs := [4]) (by kernel_rfl) (by simp) ?_
              refine AllReadyIn.cons rfl (fun K hK => ?_) ?_
              · go_simp
                gi_wp2_with (refine ⟨trivial, ?_⟩; gi_at_call 37; refine (CallsIn.inRound l (callsIn_wide.2 HMN.out)).mono ?_; rintro e w' ⟨rfl, rfl⟩)
                refine wpAnyIn_ready (rs := [5]) (by kernel_rfl) (by simp) ?_
                refine AllReadyIn.cons rfl (fun K hK => ?_) ?_
                · go_simp
                  refine hK _ _ ?_
                  clear hK K
                  refine wpAnyIn_ready (rs := [6]) (by kernel_rfl) (by simp) ?_
                  refine AllReadyIn.cons rfl (fun K hK => ?_) ?_
                  · go_simp
                    refine hK _ _ ?_
                    clear hK K
                    exact fin
                  exact AllReadyIn.nil
                exact AllReadyIn.nil
              exact AllReadyIn.nil
            exact AllReadyIn.nil
          refine AllReadyIn.cons rfl (fun K hK => ?_) ?_
          · go_simp
            gi_wp2_with (refine ⟨trivial, ?_⟩; gi_at_call 36; refine (CallsIn.inRound l (callsIn_wide.2 HMX.out)).mono ?_; rintro e w' ⟨rfl, rfl⟩)
            refine wpAnyIn_ready (rs := [0, 4]) (by kernel_rfl) (by simp) ?_
            refine AllReadyIn.cons rfl (fun K hK => ?_) ?_
            · go_simp
              refine hK _ _ ?_
              clear hK K
              refine wpAnyIn_ready (rs := [4]) (by kernel_rfl) (by simp) ?_
              refine AllReadyIn.cons rfl (fun K hK => ?_) ?_
              · go_simp
                gi_wp2_with (refine ⟨trivial, ?_⟩; gi_at_call 37; refine (CallsIn.inRound l (callsIn_wide.2 HMN.out)).mono ?_; rintro e w' ⟨rfl, rfl⟩)
                refine wpAnyIn_ready (rs := [5]) (by kernel_rfl) (by simp) ?_
                refine AllReadyIn.cons rfl (fun K hK => ?_) ?_
                · go_simp
                  refine hK _ _ ?_
                  clear hK K
                  refine wpAnyIn_ready (rs := [6]) (by kernel_rfl) (by simp) ?_
                  refine AllReadyIn.cons rfl (fun K hK => ?_) ?_
                  · go_simp
                    refine hK _ _ ?_
                    clear hK K
                    exact fin
                  exact AllReadyIn.nil
                exact AllReadyIn.nil
              exact AllReadyIn.nil
            refine AllReadyIn.cons rfl (fun K hK => ?_) ?_
            · go_simp
              gi_wp2_with (refine ⟨trivial, ?_⟩; gi_at_call 37; refine (CallsIn.inRound l (callsIn_wide.2 HMN.out)).mono ?_; rintro e w' ⟨rfl, rfl⟩)
              refine wpAnyIn_ready (rs := [0, 5]) (by kernel_rfl) (by simp) ?_
              refine AllReadyIn.cons rfl (fun K hK => ?_) ?_
              · go_simp
                refine hK _ _ ?_
                clear hK K
                refine wpAnyIn_ready (rs := [5]) (by kernel_rfl) (by simp) ?_
                refine AllReadyIn.cons rfl (fun K hK => ?_) ?_
                · go_simp
                  refine hK _ _ ?_
                  clear hK K
                  refine wpAnyIn_ready (rs := [6]) (by kernel_rfl) (by simp) ?_
                  refine AllReadyIn.cons rfl (fun K hK => ?_) ?_
                  · go_simp
                    refine hK _ _ ?_
                    clear hK K
                    exact fin
                  exact AllReadyIn.nil
                exact AllReadyIn.nil
              refine AllReadyIn.cons rfl (fun K hK => ?_) ?_
              · go_simp
                refine hK _ _ ?_
                clear hK K
                refine wpAnyIn_ready (rs := [0, 6]) (by kernel_rfl) (by simp) ?_
                refine AllReadyIn.cons rfl (fun K hK => ?_) ?_
                · go_simp
                  refine hK _ _ ?_
                  clear hK K
                  refine wpAnyIn_ready (rs := [6]) (by kernel_rfl) (by simp) ?_
                  refine AllReadyIn.cons rfl (fun K hK => ?_) ?_
                  · go_simp
                    refine hK _ _ ?_
                    clear hK K
                    exact fin
                  exact AllReadyIn.nil
                refine AllReadyIn.cons rfl (fun K hK => ?_) ?_
                · go_simp
                  refine hK _ _ ?_
                  clear hK K
                  refine wpAnyIn_ready (rs := [0]) (by kernel_rfl) (by simp) ?_
                  refine AllReadyIn.cons rfl (fun K hK => ?_) ?_
                  · go_simp
                    refine hK _ _ ?_
                    clear hK K
                    exact fin
                  exact AllReadyIn.nil
                exact AllReadyIn.nil
              exact AllReadyIn.nil
            exact AllReadyIn.nil
          exact AllReadyIn.nil
        exact AllReadyIn.nil
      exact AllReadyIn.nil
    case fin =>
      have hrd : ((W.alloc (.cells #[.int .i64 z] 3)).drew).ownsRow w2.heap.size 3 1 v pre.length (pre.map fun j => Value.int .i64 (wid (grp xs g (clq q j)))) := hrow.alloc _
      have hwz : w2.heap.size ≤ W.heap.size := hsz
      clear hc2
      refine wpAnyIn_tail 7 (by kernel_rfl) (by kernel_rfl) ?_
      simp only [List.drop_succ_cons, List.drop_zero]
      refine wpListIn_append_own _ rfl _ _ 22 rfl w2.heap.size 3 i0 (.int .i64 0) 1 8 Tryz.underlying22 hi hz0 hz1 hz2 rfl (by decide) _ _ _ rfl hrd ⟨W.heap.size, 0, none⟩ 1 1 [.int .i64 z] rfl rfl (cell_one_new W _ _) (by simp [Value.oneCell']) (by unfold maxLen; omega) (by omega) (by show _ ≤ (W.alloc _).heap.size; simp; omega) ?_
      intro v' w3 hown' hgrow _
      obtain ⟨g', cap', rfl⟩ := ownsRow_succ hown'
      obtain ⟨hv1, hv2, hr2, hk2, hkp, hb2⟩ := appended_kp (n1 := w1.heap.size) (tmp := .cells #[.int .i64 z] 3) hv (by decide) hrow hwz (Nat.le_refl _) (by omega) hown' ⟨hgrow.os, hgrow.tape, hgrow.output, hgrow.size, hgrow.block⟩
      have hc1 := hv1.cell
      have hf1 := hv1.frozen
      gi_wp2
      exact ⟨hk2.from _, by rw [← hS2]; exact hkp, ⟨_, hv2, by rw [List.map_append, List.length_append, List.map_singleton, HZ.out]; exact hr2, by simp⟩, hB.trans hb2, Nat.le_trans hsz hk2.size⟩
  case stop =>
    rintro D cc pre W _ _ h _
    exact h.elim
  case done =>
    rintro D ys W hD rfl ⟨⟨v, hv, hrow, hnil⟩, hB, hsz⟩ hK
    have hmap : (List.range q).map (fun j => Value.int .i64 (wid (grp xs g (clq q j)))) = (sprL xs g q).map (Value.int .i64) := by
      unfold sprL
      rw [List.map_map]
      refine List.map_congr_left fun j hj => ?_
      rw [clq_eq (List.mem_range.1 hj)]; rfl
    rw [hmap] at hrow
    have hlen : (sprL xs g q).length = q := by unfold sprL; rw [List.length_map, List.length_range]
    obtain ⟨A', c', rfl, hI⟩ := row_ints hrow (by rw [hlen]; omega)
    have hne : sprL xs g q ≠ [] := by intro e; rw [e] at hlen; simp at hlen; omega
    have htame : Tame (sprL xs g q) := ⟨by rw [hlen]; exact hq4, fun y hy => by
      unfold sprL at hy
      obtain ⟨j, hj, rfl⟩ := List.mem_map.1 hy
      have hgl2 := HG.out _ (List.mem_range.1 hj)
      have hgr := grp_len hgl2
      have := wid_bd (l := grp xs g j) (by intro e; rw [e] at hgr; simp at hgr; omega) (fun y hy => HV.out y (grp_mem hy))
      omega⟩
    have HM := Lib.hid (cap_mean_calls A' c' (sprL xs g q) W hI htame hne (tab_below HT.out hB))
    have HF := Lib.hid (fun (W' : World) (k : Below W.heap.size W W') => show SprPost (sprL xs g q) (Q (avg (sprL xs g q))) 0 w1 (.returned (.tuple #[.slice A' (sprL xs g q).length c', .string (Q (avg (sprL xs g q))), .int .i64 0])) (W'.putObj D (.deferred none)) from
      have hDl := (Array.getElem?_eq_some_iff.1 hK).1
      have hK' := (k.block D hDl).trans hK
      ⟨A', c', rfl, ints_putObj (ints_below hI k) hK', (below_below hB hB.size k).trans (belowK_b (w := w2) (by omega) W' D _ _ hD hK' rfl rfl)⟩)
    have HC2 := Lib.hid (fun (W' : World) (k : Below W.heap.size W W') => show W'.cell? ⟨w1.heap.size, 0, none⟩ = some (.slice A' (sprL xs g q).length c') from (k.cell (p := ⟨w1.heap.size, 0, none⟩) hv.lt).trans hv.cell)
    have hDl := (Array.getElem?_eq_some_iff.1 hK).1
    have hc := hv.cell
    clear htame hne hI hrow hmap hnil
    generalize Q (avg (sprL xs g q)) = out at *
    generalize sprL xs g q = ys at *
    rw [hlen] at HM HF HC2 hc
    clear hlen hv hS2 hseq
    gi_wp2
    refine ⟨trivial, ?_⟩
    refine (callsIn_wide.2 HM.out).mono ?_
    rintro e w4 ⟨rfl, hw4⟩
    have hc4 := HC2.out w4 hw4
    have hK4 := (hw4.block D hDl).trans hK
    have HFF := Lib.hid (HF.out w4 hw4)
    clear HF hw4
    gi_wp2
    refine ⟨by simp, .inl ⟨_, _, rfl, run_takeDeferred hK4, ?_⟩⟩
    refine ⟨_, results_tmp3 (t := 4) (u := 5) (v := 6) rfl _ _ _, ?_⟩
    exact HFF.out
theorem sprE_ok {xs : List Int} {G : Int} (h : sprE xs G = 0) : serE xs = 0 ∧ 2 ≤ G ∧ G ≤ 256 ∧ G ≤ xs.length := by
  unfold sprE at h
  by_cases h1 : serE xs = 0
  · rw [h1, if_neg (by decide)] at h
    by_cases h2 : G < 2 ∨ 256 < G
    · rw [if_pos h2] at h; cases h
    · rw [if_neg h2] at h
      by_cases h3 : (xs.length : Int) < G
      · rw [if_pos h3] at h; cases h
      · exact ⟨h1, by omega, by omega, by omega⟩
  · rw [if_pos h1] at h; exact absurd h h1
set_option maxHeartbeats 1000000 in
theorem spread_no (A : Option Addr) (c : Nat) (xs : List Int) (G : Int) (w : World) (hx : IntsAt w A c xs) (hE : sprE xs G ≠ 0) :
    Calls Tryz.prog 29 #[.slice A xs.length c, .int .i64 G] w (SprPost [] { data := #[] } (sprE xs G) w) := by
  have HC := Lib.hid (cap_check_calls A c xs w hx)
  have hbig := hx.big
  have HF := Lib.hid (fun er => show SprPost [] { data := #[] } er w (.returned (.tuple #[.slice none 0 0, .string { data := #[] }, .int .i64 er])) w from ⟨none, 0, rfl, ⟨Nat.le_refl _, by simp, .inl rfl⟩, Below.refl _ _⟩)
  clear hx
  unfold sprE at hE ⊢
  by_cases h1 : serE xs = 0
  · rw [h1] at HC
    rw [h1, if_neg (by decide)] at hE
    rw [h1, if_neg (by decide)]
    generalize xs.length = n at *
    by_cases h2 : G < 2
    · rw [if_pos (.inl h2)]
      clear hE
      go_enter Tryz.func29, Tryz.ntmps29
      go_wp2_with (go_at_call 18; refine (HC.out).mono ?_; rintro e w1 ⟨rfl, rfl⟩)
      go_ret3
      exact HF.out 2
    · by_cases h3 : 256 < G
      · rw [if_pos (.inr h3)]
        have h4 : 2 ≤ G := by omega
        clear hE h2
        go_enter Tryz.func29, Tryz.ntmps29
        go_wp2_with (go_at_call 18; refine (HC.out).mono ?_; rintro e w1 ⟨rfl, rfl⟩)
        go_ret3
        exact HF.out 2
      · rw [if_neg (by omega)] at hE
        rw [if_neg (by omega)]
        have h5 : (n : Int) < G := by
          by_cases h : (n : Int) < G
          · exact h
          · rw [if_neg h] at hE; exact absurd rfl hE
        rw [if_pos h5]
        have h4 : 2 ≤ G := by omega
        have h6 : G ≤ 256 := by omega
        clear hE h2 h3
        go_enter Tryz.func29, Tryz.ntmps29
        go_wp2_with (go_at_call 18; refine (HC.out).mono ?_; rintro e w1 ⟨rfl, rfl⟩)
        go_ret3
        exact HF.out 14
  · rw [if_pos h1]
    have hb : (serE xs != 0) = true := by simpa using h1
    clear hE h1
    generalize serE xs = er at *
    generalize xs.length = n at *
    go_enter Tryz.func29, Tryz.ntmps29
    go_wp2_with (go_at_call 18; refine (HC.out).mono ?_; rintro e w1 ⟨rfl, rfl⟩)
    go_ret3
    exact HF.out er
theorem spread_calls (A : Option Addr) (c : Nat) (xs : List Int) (G : Int) (w : World) (hx : IntsAt w A c xs) (hT : Tab w) :
    Calls Tryz.prog 29 #[.slice A xs.length c, .int .i64 G] w (SprPost (sprV xs G) (sprT xs G) (sprE xs G) w) := by
  by_cases h : sprE xs G = 0
  · have hk := sprE_ok h
    unfold sprV sprT
    rw [if_pos h, if_pos h, h]
    obtain ⟨g, rfl⟩ : ∃ g : Nat, G = g := ⟨G.toNat, by omega⟩
    rw [Int.toNat_natCast]
    rcases hx.at_ with h0 | ⟨b, o, rfl, _⟩
    · exact absurd h0 (serE_ok hk.1).1
    · exact spread_ok b o c g _ _ xs w hx hT hk.1 (by omega) (by omega) (by omega) rfl rfl
  · unfold sprV sprT
    rw [if_neg h, if_neg h]
    exact spread_no A c xs G w hx h
end Go.Proofs.YtdkfebfedfemaaaGreatDoor
