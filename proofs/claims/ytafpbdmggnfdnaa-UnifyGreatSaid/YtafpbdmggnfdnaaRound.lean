/- A region that draws its order, in a round of a loop over a function: one walk in the order of the text, a tail behind it. -/
import Derived.RangeFuncCalls
import Derived.StillTailTactics
import Derived.OrdersIn
import Derived.TacticsIn
namespace Go.Proofs.Ytafpbdmggnfdnaa
open Go
set_option linter.unusedVariables false

section
variable {P : Program} {ops : Array Oper} {l n : Nat}
theorem wpIn_of_wp_round {o : Oper} {a : Act} {w : World} {K K' : Act → World → Prop} {Q : Exit → Act → World → Prop} (hd : ∀ c, o.op ≠ .defer c) (hK : ∀ a w, K a w → K' a w) (h : o.wp P a w K Q) : o.wpIn (Fence.wide.inRound l) n P a w K' Q := by
  refine ⟨fun _ _ => trivial, ?_⟩
  rw [Fence.inRound_round, Oper.semAt_some l _ _ hd]
  unfold Oper.wp at h
  generalize (execOp a.eval o).run P w = r at *
  cases r with
  | ok x w' =>
    cases x <;> simp only [Oper.upon, Oper.uponIn] at h ⊢
    case value v => exact hK _ _ h
    case skip => exact hK _ _ h
    case defer d => exact hK _ _ h
    case enter f args =>
      refine ⟨(fun hh => by cases hh), CallsIn.inRound l (callsIn_wide.2 (h.mono fun e w'' he => ?_))⟩
      cases e with
      | returned v => exact hK _ _ he
      | panicked c => exact he
      | outgrown => exact he
    case row row args => exact ⟨fun hh => (by cases hh), fun c cs _ => let ⟨v, w'', hv, hs⟩ := h c cs; ⟨v, w'', hK _ _ hv, stepsIn_wide.2 hs⟩⟩
  | halt x w' => cases x <;> simp only [Oper.upon, Oper.uponIn] at h ⊢ <;> exact h
theorem wpAnyIn_of_wpAny {Q : Exit → Act → World → Prop} {md : Region.Mode} (hout : ¬ LetsOut Q) (hd : ∀ (i : Nat) (o : Oper), ops[i]? = some o → ∀ c, o.op ≠ .defer c) : ∀ (fuel : Nat) (listed : Array Bool) (a : Act) (w : World), wpAny P md ops Q fuel listed a w → wpAnyIn (Fence.wide.inRound l) n P md ops Q fuel listed a w := by
  intro fuel
  induction fuel with
  | zero => intro listed a w h; exact h
  | succ fuel ih =>
    intro listed a w h
    refine ⟨h.1, fun i hi => ?_⟩
    have h2 := h.2 i hi
    unfold wpOp at h2
    unfold wpOpIn
    cases ho : ops[i]? with
    | none => simp only [ho] at h2 ⊢; exact ih _ _ _ h2
    | some o =>
      simp only [ho] at h2 ⊢
      split
      · rename_i hw
        simp only [hw, if_true] at h2
        exact wpIn_of_wp_round (hd i o ho) (fun a w => ih _ a w) (h2.resolve_right fun h3 => hout h3.2)
      · rename_i hw
        simp only [hw] at h2
        exact ⟨fun _ _ => trivial, ih _ _ _ h2⟩
/-- All but the last few operations read; the rest come in one order. -/
theorem round_still_tail {id : Nat} {Q : Exit → Act → World → Prop} {a : Act} {w : World} {os : List Oper} (k : Nat) (hout : ¬ LetsOut Q) (hm : P.follows .mixedOrders = true) (hB : Region.lexTailB .any os.toArray k = true) (hd : (os.all fun o => match o.op with | .defer _ => false | _ => true) = true)
    (h : wpStill P os.toArray { w with drawn := w.drawn + 1 } (fun a' => wpList P os.toArray Q (os.drop k) a' { w with drawn := w.drawn + 1 }) (os.take k) a) : (Code.region id os.toArray true).wpIn (Fence.wide.inRound l) n P Q a w := by
  have hd' : ∀ (i : Nat) (o : Oper), os.toArray[i]? = some o → ∀ c, o.op ≠ .defer c := by
    intro i o ho c hc
    have hmem : o ∈ os := by simpa using List.mem_of_getElem? (show os[i]? = some o by simpa using ho)
    have := List.all_eq_true.1 hd o hmem
    rw [hc] at this
    cases this
  simp only [Region.lexTailB, Bool.and_eq_true, decide_eq_true_eq] at hB
  obtain ⟨⟨⟨⟨hsel, hn⟩, hs⟩, hc⟩, hlex⟩ := hB
  have hk : k < os.length := by simpa using hn
  have htl : (os.take k).length = k := by rw [List.length_take]; omega
  have hdl : (os.drop k).length = os.toArray.size - k := by simp
  have inv0 : HeadInv .any os.toArray k (Array.replicate os.toArray.size false) :=
    ⟨by simp, fun j oj _ hl => (by rw [getD_replicate_false] at hl; cases hl), fun t _ ht => getD_in (by simpa using ht) (getD_replicate_false _ _)⟩
  have H := wpAnyL_lex (md := .any) (g := os.toArray.size - k) hsel hs hc hn (os.take k) 0 _ a (fun j hj => by
    have hj' : j < k := by rw [htl] at hj; exact hj
    simp [hj']) (by simpa using htl) inv0 (by rw [htl]; exact hlex) h
  have hall := wpAny_of_head (Q' := Q) (g := os.toArray.size - k) (fun listed a' hL => by
    have := wpAny_of_seq (md := .any) (Q' := Q) (os.drop k) k listed a' { w with drawn := w.drawn + 1 } (fun j => by simp [List.getElem?_drop]) (by rw [hdl]; exact hL.1) hL.2
    rwa [hdl] at this) _ _ _ H
  rw [htl, show k + (os.toArray.size - k) = os.toArray.size by omega] at hall
  exact wpIn_region_any hm (wpAnyIn_of_wpAny hout hd' _ _ _ _ hall)
end
end Go.Proofs.Ytafpbdmggnfdnaa
