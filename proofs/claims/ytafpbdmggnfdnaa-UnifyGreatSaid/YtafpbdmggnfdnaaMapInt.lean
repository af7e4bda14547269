/- A map from int to int that the call has made: which number stands for which. -/
import Derived.Test.YtafpbdmggnfdnaaStore
import Derived.Test.YtafpbdmggnfdnaaPlainCycle
import Derived.Maps.Own
import Derived.Maps.OwnOps
import Derived.Maps.OwnSet
import Derived.Maps.Views
namespace Go.Proofs.Ytafpbdmggnfdnaa
open Go.RowKit Go.Maps
set_option linter.unusedVariables false

/-- Block b is a map of at most n entries; at a number below 2 ^ 62 it has f. -/
def MapIs (w : World) (b n : Nat) (f : Nat → Nat) : Prop :=
  ∃ D : DataW Unit, w.ownsMap Try.prog 3 (plainElem Try.prog 3) b n D ∧ ∀ k : Nat, k < 4611686018427387904 → D.atKey (.int .i64 (k : Int)) (.lit (.int .i64 0)) = .lit (.int .i64 (f k : Int))
theorem zeroInt (w : World) : (zeroValue 3).run Try.prog w = .ok (.int .i64 0) w := by kernel_rfl
theorem int_wf (k : Nat) (h : k < 4611686018427387904) : (Lit.int .i64 (k : Int)).wf = true := WalkArith.wf_i64 (by omega)
theorem MapIs.lt {w : World} {b n : Nat} {f : Nat → Nat} (h : MapIs w b n f) : b < w.heap.size := by
  obtain ⟨D, ⟨es, clock, hb, _⟩, _⟩ := h
  exact (Array.getElem?_eq_some_iff.1 hb).1
theorem MapIs.keep {w w' : World} {b n : Nat} {f : Nat → Nat} (h : MapIs w b n f) (hk : w'.heap[b]? = w.heap[b]?) : MapIs w' b n f := by
  obtain ⟨D, ⟨es, clock, hb, h2⟩, h3⟩ := h
  exact ⟨D, ⟨es, clock, hk.trans hb, h2⟩, h3⟩
theorem MapIs.new (w : World) : MapIs (w.alloc (.map #[] 0)) w.heap.size 0 (fun _ => 0) := by
  refine ⟨_, World.ownsMap_made _ _ _ _, fun k hk => ?_⟩
  rfl
theorem wpList_map_set {w : World} {ops : Array Oper} {rest : List Oper} {o : Oper} {a : Act} {Q : Exit → Act → World → Prop} (hg : o.guard = none) (m x v : Operand) (hop : o.op = Op.mapUpdate 76 m x v) (b n : Nat) (f : Nat → Nat)
    (hm : a.eval m = .map (some b)) (h : MapIs w b n f) (hn : n < 1000000000) (key val : Nat) (hx : a.eval x = .int .i64 (key : Int)) (hv : a.eval v = .int .i64 (val : Int)) (hk : key < 4611686018427387904) (hvl : val < 4611686018427387904)
    (hK : ∀ w', MapIs w' b (n + 1) (updN f key val) → w.grownBy w' (some b) → wpList Try.prog ops Q rest (a.put o.dst undef) w') : wpList Try.prog ops Q (o :: rest) a w := by
  obtain ⟨D, hown, hat⟩ := h
  have hD : IsMap D := by obtain ⟨es, clock, _, _, _, e⟩ := hown; rw [e]; exact ⟨_, rfl⟩
  refine wpList_mapUpdate_own w hg m x v 76 hop 3 3 (int_keyed Try.underlying3) Try.underlying76 (plainElem Try.prog 3) b n D hm hown (by unfold maxLen; omega) _ _ (.int .i64 (key : Int)) hx hv (keyOf_int_mk Try.underlying3 (int_wf key hk)) (.lit (.int .i64 (val : Int))) [] (plainElem_int Try.underlying3 (int_wf val hvl)) (fun w' hown' hgrow => hK w' ⟨_, hown', fun k hkk => ?_⟩ hgrow)
  by_cases e : k = key
  · subst e
    rw [updN_same, atKey_put_same hD (by simp [WideAt.IsKeyLit])]
  · rw [updN_other _ _ _ _ e, atKey_put_other (by intro e'; injection e' with _ e'; exact e (by omega))]
    exact hat k hkk
theorem wpList_map_get {w : World} {ops : Array Oper} {rest : List Oper} {o : Oper} {a : Act} {Q : Exit → Act → World → Prop} (hg : o.guard = none) (m x : Operand) (hop : o.op = Op.lookup 76 m x false) (b n : Nat) (f : Nat → Nat)
    (hm : a.eval m = .map (some b)) (h : MapIs w b n f) (key : Nat) (hx : a.eval x = .int .i64 (key : Int)) (hk : key < 4611686018427387904)
    (hK : wpList Try.prog ops Q rest (a.put o.dst (.int .i64 (f key : Int))) w) : wpList Try.prog ops Q (o :: rest) a w := by
  obtain ⟨D, hown, hat⟩ := h
  refine wpList_lookup_own_int w hg m x 76 hop 3 3 .i64 (int_keyed Try.underlying3) Try.underlying76 Try.underlying3 (zeroInt w) b n D hm hown _ (.int .i64 (key : Int)) hx (keyOf_int_mk Try.underlying3 (int_wf key hk)) (fun c hc _ => ?_)
  rw [hat key hk] at hc
  injection hc with hc
  injection hc with _ hc
  rw [← hc]; exact hK
end Go.Proofs.Ytafpbdmggnfdnaa
