/- A region that draws its order, its head still and its tail forced, in a round of a loop over a function. -/
import Derived.Test.YtdkfebfedfemaaaGreatDoorM3
import Derived.StillTailTactics
import Derived.RangeFuncNested
import Derived.RangeFuncCalls
import Derived.Shelf.RegionOpen
import Derived.WalkKit
import Derived.OwnWalkIn
set_option linter.unusedVariables false
set_option linter.unusedSimpArgs false
namespace Go.Proofs.YtdkfebfedfemaaaGreatDoor
open Go.RowKit

/-- A fence that lets all by. -/
structure Lax (F : Fence) (P : Program) : Prop where
  fn : ∀ f, F.fn f
  depth : F.depth = none
  calls : ∀ n f args w R, Calls P f args w R → CallsIn F n P f args w R
theorem lax_round (l : Nat) (P : Program) : Lax (Fence.wide.inRound l) P := ⟨fun _ => trivial, rfl, fun _ _ _ _ _ h => CallsIn.inRound l (callsIn_wide.2 h)⟩
theorem lax_wide (P : Program) : Lax Fence.wide P := ⟨fun _ => trivial, rfl, fun _ _ _ _ _ h => callsIn_wide.2 h⟩
def noDefer (o : Oper) : Bool := match o.op with | .defer _ => false | _ => true
theorem noDefer_ne {o : Oper} (h : noDefer o = true) : ∀ c, o.op ≠ .defer c := by
  intro c e; unfold noDefer at h; rw [e] at h; cases h
variable {F : Fence} {n : Nat} {P : Program} {ops : Array Oper} {md : Region.Mode} {w : World}
theorem wpIn_of_still {o : Oper} {a : Act} {K : Act → Prop} {K' : Act → World → Prop} {Q' : Exit → Act → World → Prop} (hL : Lax F P) (hd : noDefer o = true) (h : ∀ a, K a → K' a w) (hh : o.still P a w K) : o.wpIn F n P a w K' Q' := by
  refine ⟨fun f _ => hL.fn f, ?_⟩
  rw [Oper.semAt_eq _ _ _ (noDefer_ne hd)]
  unfold Oper.still at hh
  generalize (execOp a.eval o).run P w = r at *
  cases r with
  | ok m w' =>
    cases m <;> simp only [Oper.stillUpon] at hh <;> simp only [Oper.uponIn]
    case enter f args =>
      obtain ⟨rfl, v, hc, hn⟩ := hh
      exact ⟨fun h => (by rw [hL.depth] at h; cases h), CallsIn.mono (hL.calls _ _ _ _ _ hc) fun e w'' ⟨he, hw⟩ => by subst he; subst hw; exact h _ hn⟩
    all_goals (obtain ⟨rfl, h2⟩ := hh; exact h _ h2)
  | halt x w' => simp only [Oper.stillUpon] at hh
theorem wpOpIn_of_stOp (hL : Lax F P) (hd : ∀ (i : Nat) (o : Oper), ops[i]? = some o → noDefer o = true) {i : Nat} {a : Act} {K : Act → Prop} {K' : Act → World → Prop} {Q' : Exit → Act → World → Prop} (h : ∀ a, K a → K' a w) (hh : stOp P ops w i K a) : wpOpIn F n P ops Q' i K' a w := by
  unfold stOp at hh
  unfold wpOpIn
  split
  · rename_i ho; simp only [ho] at hh; exact h _ hh
  · rename_i o ho
    simp only [ho] at hh
    split
    · rename_i hw; simp only [hw, if_true] at hh; exact wpIn_of_still hL (hd i o ho) h hh
    · rename_i hw; simp only [hw] at hh; exact ⟨fun f _ => hL.fn f, h _ hh⟩
theorem wpAnyIn_of_head (hL : Lax F P) (hd : ∀ (i : Nat) (o : Oper), ops[i]? = some o → noDefer o = true) {m g : Nat} {L : Array Bool → Act → Prop} {Q' : Exit → Act → World → Prop} (hLq : ∀ listed a, L listed a → wpAnyIn F n P md ops Q' g listed a w) :
    ∀ (f : Nat) (listed : Array Bool) (a : Act), wpAnyL P md ops w m L f listed a → wpAnyIn F n P md ops Q' (f + g) listed a w
  | 0, listed, a, h => by rw [Nat.zero_add]; exact hLq _ _ h
  | f + 1, listed, a, h => by
    rw [show f + 1 + g = (f + g) + 1 by omega]
    exact ⟨fun h0 => absurd h0 h.1, fun i hi => wpOpIn_of_stOp hL hd (fun a' h' => wpAnyIn_of_head hL hd hLq f _ a' h') (h.2 i hi).2⟩
theorem wpAnyIn_of_seq {Q' : Exit → Act → World → Prop} : ∀ (l : List Oper) (k : Nat) (listed : Array Bool) (a : Act) (w : World), (∀ j, l[j]? = ops[k + j]?) →
    Region.seqB md ops l.length k listed = true → wpListIn F n P ops Q' l a w → wpAnyIn F n P md ops Q' l.length listed a w
  | [], _, _, _, _, _, hB, h => ⟨by simpa [Region.seqB] using hB, h⟩
  | o :: l, k, listed, a, w, hl, hB, h => by
    have h0 : ops[k]? = some o := by simpa using (hl 0).symm
    simp only [List.length_cons, Region.seqB, Bool.and_eq_true, decide_eq_true_eq] at hB
    refine ⟨fun h1 => (by rw [hB.1] at h1; cases h1), fun i hi => ?_⟩
    rw [hB.1] at hi
    have hik : i = k := by simpa using hi
    subst hik
    have hw : wpOpIn F n P ops Q' i (wpListIn F n P ops Q' l) a w := by unfold wpOpIn; simp only [h0]; exact h
    exact wpOpIn_mono (fun a' w' h' => wpAnyIn_of_seq l (i + 1) _ a' w' (fun j => by have := hl (j + 1); simpa [Nat.add_assoc, Nat.add_comm 1 j] using this) hB.2 h') hw
/-- What is left of a region is forced. -/
theorem wpAnyIn_tail {Q' : Exit → Act → World → Prop} {l : List Oper} (m : Nat) {g : Nat} {listed : Array Bool} {a : Act} {w : World} (hg : (l.drop m).length = g) (hB : Region.seqB md l.toArray (l.drop m).length m listed = true)
    (h : wpListIn F n P l.toArray Q' (l.drop m) a w) : wpAnyIn F n P md l.toArray Q' g listed a w := by
  rw [← hg]
  exact wpAnyIn_of_seq (l.drop m) m listed a w (fun j => by simp [List.getElem?_drop]) hB h
theorem wpIn_region_still_tail {id : Nat} {Q : Exit → Act → World → Prop} {a : Act} {w : World} {l : List Oper} (m : Nat) (hL : Lax F P) (hm : P.follows .mixedOrders = true) (hB : Region.lexTailB .any l.toArray m = true) (hnd : l.all noDefer = true)
    (h : wpStill P l.toArray { w with drawn := w.drawn + 1 } (fun a' => wpListIn F n P l.toArray Q (l.drop m) a' { w with drawn := w.drawn + 1 }) (l.take m) a) : (Code.region id l.toArray true).wpIn F n P Q a w := by
  simp only [Region.lexTailB, Bool.and_eq_true, decide_eq_true_eq] at hB
  obtain ⟨⟨⟨⟨hsel, hn⟩, hs⟩, hc⟩, hlex⟩ := hB
  have hd : ∀ (i : Nat) (o : Oper), l.toArray[i]? = some o → noDefer o = true := fun i o ho => List.all_eq_true.1 hnd o (by rw [List.getElem?_toArray] at ho; exact List.mem_of_getElem? ho)
  have hn' : m < l.length := by simpa using hn
  have htl : (l.take m).length = m := by simp; omega
  have hdl : (l.drop m).length = l.toArray.size - m := by simp
  have inv0 : HeadInv .any l.toArray m (Array.replicate l.toArray.size false) :=
    ⟨by simp, fun j oj _ hl => (by rw [getD_replicate_false] at hl; cases hl), fun t _ ht => getD_in (by simpa using ht) (getD_replicate_false _ _)⟩
  have H := wpAnyL_lex (md := .any) (g := l.toArray.size - m) hsel hs hc hn (l.take m) 0 _ a (fun j hj => by
    have hj' : j < m := by rw [htl] at hj; exact hj
    simp [hj']) (by simpa using htl) inv0 (by rw [htl]; exact hlex) h
  refine wpIn_region_any hm ?_
  have := wpAnyIn_of_head (F := F) (n := n) hL hd (Q' := Q) (g := l.toArray.size - m) (fun listed a' hL2 => by
    have := wpAnyIn_of_seq (F := F) (n := n) (md := .any) (Q' := Q) (l.drop m) m listed a' { w with drawn := w.drawn + 1 } (fun j => by simp [List.getElem?_drop]) (by rw [hdl]; exact hL2.1) hL2.2
    rwa [hdl] at this) _ _ _ H
  rw [htl, show m + (l.toArray.size - m) = l.toArray.size by omega] at this
  exact this
end Go.Proofs.YtdkfebfedfemaaaGreatDoor
