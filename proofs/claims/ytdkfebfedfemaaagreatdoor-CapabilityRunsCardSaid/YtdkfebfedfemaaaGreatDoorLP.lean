/- What every claim of this seat starts from: the listed tables, the arguments opened. -/
import Derived.Test.YtdkfebfedfemaaaGreatDoorC2
import Derived.Test.YtdkfebfedfemaaaGreatDoorK1
import Derived.Test.YtdkfebfedfemaaaGreatDoorRows
import Derived.Test.YtdkfebfedfemaaaGreatDoorTie
import Derived.ProofKit
import Derived.OpenShut
import Derived.LaidMore
import Derived.Lay
import Derived.SevenTiedAt
import Derived.Stop.Joined
import Derived.Stop.LaidErr
import Derived.ChangeOld
import Derived.Below
import Derived.SizedLaws
set_option linter.unusedVariables false
namespace Go.Proofs.YtdkfebfedfemaaaGreatDoor
open Go.ChangeShapes Go.WideShapes Go.ChangeAt Go.RowKit Go.Mlab

theorem own : ownKnob Tryz.prog.godebug = none := by kernel_rfl
theorem laidOut : laidOutB Tryz.prog = true := by kernel_rfl
/-- What the listed tables read as. -/
def laidL : List (String × DataW Unit) := [("math/bits.deBruijn32tab", Rows.laid_math_bits_deBruijn32tab), ("math/bits.deBruijn64tab", Rows.laid_math_bits_deBruijn64tab), ("internal/strconv.uint64pow10", Rows.laid_internal_strconv_uint64pow10), ("unicode/utf8.acceptRanges", Rows.laid_unicode_utf8_acceptRanges), ("strconv.ErrRange", Rows.laid_strconv_ErrRange), ("strconv.ErrSyntax", Rows.laid_strconv_ErrSyntax), ("unicode/utf8.first", Rows.laid_unicode_utf8_first)]
theorem pow_type : (Tryz.prog.globals[(Tryz.prog.globalNamed "internal/strconv.uint64pow10").get!]?).map (·.type) = some 223 := by kernel_rfl
theorem tab_of_laid {W : World} (h : laidMetH Tryz.prog laidL W) : Tab W := by
  rw [MakeChecks.laidMetH_plain _ _ _ (by kernel_rfl)] at h
  exact Lib.tabIs_of_head (k := .u64) (zs := Lib.pow10Tab) tab_global pow_type Tryz.underlying223 Tryz.underlying143 (by kernel_rfl) (by kernel_rfl) (laidMet.tail (laidMet.tail h))
theorem laid_start (os : Os) (args : Array Value) : laidMetH Tryz.prog laidL ((World.laidAll Tryz.prog os laidL).forCall (fun _ _ => 0) ⟨#[], args, []⟩).memory := by
  rw [MakeChecks.laidMetH_plain _ _ _ (by kernel_rfl)]; exact laidMet_laidAll _ (by kernel_rfl) (by kernel_rfl)
theorem laid_shaped (os : Os) : (World.laidAll Tryz.prog os laidL).Shaped Tryz.prog := World.shaped_of_ZipB (by kernel_rfl) (by kernel_rfl)
theorem int_cells : Tryz.prog.cellsOf 3 = 1 := by kernel_rfl
theorem int_bytes : Tryz.prog.bytesOf 3 = 8 := by kernel_rfl
/-- A slice of ints that came in, as a list. -/
theorem open_list {H : Type} {enc : TypeId × Value → H} {W : World} {spare : Nat → Bool} {held : Bool} {A : Option Addr} {len cap : Nat} {d : DataW H} {p : List MemPlace} {ts : List TypeId} {ds : List (DataW H)} {j : Nat}
    (h : DataW.Trod enc Tryz.prog W 0 spare held 22 (.slice A len cap) d p) (hsp : spare = fun _ => true)
    (hsz : (DataW.weightsEach Tryz.prog ts ds).all (· ≤ reachBytes) = true) (ht : ts[j]? = some 22) (hd : ds[j]? = some d) :
    ∃ xs : List Int, xs.length = len ∧ IntsAt W A cap xs := by
  subst hsp
  obtain ⟨fuel, hf⟩ := h
  rcases open_ints Tryz.underlying22 Tryz.underlying3 int_cells hf with ⟨hcs, _⟩ | ⟨x, l, c, zs, hcs, _, hl, hm, hz, hx, hcell, hwz⟩
  · simp [Value.cells] at hcs
    obtain ⟨rfl, rfl, rfl⟩ := hcs
    exact ⟨[], rfl, ⟨Nat.le_refl _, by simp, .inl rfl⟩⟩
  · simp [Value.cells] at hcs
    obtain ⟨rfl, rfl, rfl⟩ := hcs
    simp only [if_true] at hz
    have hdx := congrArg Prod.fst hx
    dsimp only at hdx
    rw [hdx] at hd
    have hs := sized_slice hsz ht hd Tryz.underlying22
    rw [int_bytes] at hs
    simp only [lits, List.length_map, List.length_take, List.length_drop] at hs
    have hlen : (zs.take len).length = len := by rw [List.length_take]; omega
    refine ⟨zs.take len, hlen, by rw [hlen]; exact hl, by rw [hlen]; unfold reachBytes at hs; omega, ?_⟩
    by_cases h0 : len = 0
    · left; rw [h0]; rfl
    · right
      obtain ⟨b, o, rfl, hc⟩ := ints_at hcell (by omega)
      refine ⟨b, o, rfl, ?_, fun i hi => ?_⟩
      · have := World.block_lt_of_cell? _ _ (hc 0 (by omega)); exact this
      · rw [hlen] at hi
        rw [hc i (by omega), List.getD_eq_getElem?_getD, List.getD_eq_getElem?_getD, List.getElem?_take_of_lt hi]
theorem limits_cells : Tryz.prog.cellsOf 34 = 2 := by kernel_rfl
theorem limits_one : (match Tryz.prog.underlying 34 with | some (.struct fs) => Deep.oneCellFields Tryz.prog fs | _ => false) = true := by kernel_rfl
set_option maxRecDepth 100000 in
/-- Limits that came in. -/
theorem open_limits {H : Type} {enc : TypeId × Value → H} {W : World} {base : Nat} {spare : Nat → Bool} {held : Bool} {v : Value} {d : DataW H} {p : List MemPlace}
    (hv : Value.okWide Tryz.prog W .any base 34 v) (h : DataW.Trod enc Tryz.prog W 0 spare held 34 v d p) :
    ∃ lo hi : Int, v = .agg #[.int .i64 lo, .int .i64 hi] := by
  obtain ⟨c0, c1, y0, y1, m, rfl, rfl, rfl, hy0, hy1⟩ := Joins.open_agg2 Tryz.underlying34 (by kernel_rfl) limits_cells hv h
  obtain ⟨a, e0, _, _⟩ := DataW.trod_int Tryz.underlying3 hy0
  obtain ⟨b, e1, _, _⟩ := DataW.trod_int Tryz.underlying3 hy1
  simp at e0 e1
  subst e0 e1
  exact ⟨a, b, rfl⟩
end Go.Proofs.YtdkfebfedfemaaaGreatDoor
