/- slices.Backward over a slice of steps: what its iterator gives. -/
import Derived.Test.YtafpbdmggnfdnaaStoreMerge
import Derived.RangeFuncNested
import Derived.RangeFuncBound
import Derived.RangeFuncCalls
import Derived.RangeFuncLeaves
import Derived.Shelf.Abstract
import Derived.Shelf.RegionOpen
import Derived.OwnWalkIn
import Derived.TacticsInMore
import Derived.LoopNIn
import Derived.LoopIn
namespace Go.Proofs.Ytafpbdmggnfdnaa
open Go.RowKit Go.Shelf
set_option linter.unusedVariables false
attribute [local go_sem] Oper.semAt_some

def stpV (s : Stp) : Value := .agg #[.int .i64 (s.1 : Int), .int .i64 (s.2.1 : Int), .int .i64 (s.2.2.1 : Int), .int .i64 (s.2.2.2 : Int)]
/-- The slice of these steps lies there. -/
def StpsAt (W : World) (A : Option Addr) (es : List Stp) : Prop := ∀ (i : Nat) (s : Stp), es[i]? = some s → ∃ b off, A = some ⟨b, off, none⟩ ∧ W.cell? ⟨b, off + i * 4, none⟩ = some (.int .i64 (s.1 : Int)) ∧ W.cell? ⟨b, off + i * 4 + 1, none⟩ = some (.int .i64 (s.2.1 : Int)) ∧ W.cell? ⟨b, off + i * 4 + 2, none⟩ = some (.int .i64 (s.2.2.1 : Int)) ∧ W.cell? ⟨b, off + i * 4 + 3, none⟩ = some (.int .i64 (s.2.2.2 : Int))

set_option maxRecDepth 100000 in
set_option maxHeartbeats 2000000 in
theorem back1_in (F : Fence) (n : Nat) (hf : F.fn 68) (hro : F.round = none) (hn : 1 ≤ n) (l Bs : Nat) (Fp : Nat → Prop) (A : Option Addr) (cap : Nat) {α : Type} (idx : α → Nat) (val : α → Stp) (es : List α) (hidx : ∀ i (h : i < es.length), idx es[i] = i) (hlen : es.length ≤ 1000000)
    (J Jx : List α → World → Prop)
    (hY : ∀ pre x W, J pre W → pre.length < es.length → YieldAt F (n - 1) Try.prog l #[.int .i64 (idx x : Int), stpV (val x)] W fun e W' =>
      (e = .returned (.bool true) ∧ J (pre ++ [x]) W' ∧ Only Fp W W') ∨ (e = .returned (.bool false) ∧ Jx (pre ++ [x]) W'))
    (W : World) (hB : W.cell? ⟨Bs, 0, none⟩ = some (.slice A es.length cap)) (hBF : ¬ Fp Bs) (hc : StpsAt W A (es.map val)) (hcF : ∀ a, A = some a → ¬ Fp a.block) (h0 : J [] W) :
    CallsIn F n Try.prog 68 #[.func (.yield l) #[] #[], .pointer (some ⟨Bs, 0, none⟩)] W fun e W' => (∃ v, e = .returned v) ∧ ((∃ ys, ys = es.reverse ∧ J ys W') ∨ (∃ pre, True ∧ Jx pre W')) := by
  refine callsIn_of_wp Try.func68 rfl hf ?_ hro
  simp only [Try.ntmps68, List.size_toArray, List.length_cons, List.length_nil, Nat.reduceAdd, Nat.reduceSub, Array.replicate_succ, Array.replicate_zero, List.push_toArray, List.append_toArray, List.nil_append, List.cons_append]
  have hBl := World.block_lt_of_cell? W _ hB
  gi_wp2
  gi_loopw [3] (fun i wr => ∃ m : Nat, m ≤ es.length ∧ i = .int .i64 ((m : Int) - 1) ∧ J (es.drop m).reverse wr ∧ Only Fp W wr) (fun i _ => (intOf i + 1).toNat)
  case atStart => exact ⟨es.length, Nat.le_refl _, rfl, by simpa using h0, Only.refl _ _⟩
  case round =>
    obtain ⟨m, hm, rfl, hJs, ho⟩ := hrel
    rcases m with _ | m
    · rw [show ((0 : Nat) : Int) - 1 = -1 by omega]
      gi_wp2
      go_end0
      exact ⟨⟨_, rfl⟩, .inl ⟨_, by simp, hJs⟩⟩
    · rw [show ((m + 1 : Nat) : Int) - 1 = (m : Int) by omega]
      have hme : (es.map val)[m]? = some (val (es[m]'(by omega))) := by rw [List.getElem?_map, List.getElem?_eq_getElem (by omega)]; rfl
      obtain ⟨b, off, rfl, d0, d1, d2, d3⟩ := hc m _ hme
      have hnb : ¬ Fp b := hcF _ rfl
      have cx : wr.cell? ⟨Bs, 0, none⟩ = some (.slice (some ⟨b, off, none⟩) es.length cap) := (ho.cell (p := ⟨Bs, 0, none⟩) hBl hBF).trans hB
      have e0 := (ho.cell (p := ⟨b, off + m * 4, none⟩) (World.block_lt_of_cell? W _ d0) hnb).trans d0
      have e1 := (ho.cell (p := ⟨b, off + m * 4 + 1, none⟩) (World.block_lt_of_cell? W _ d1) hnb).trans d1
      have e2 := (ho.cell (p := ⟨b, off + m * 4 + 2, none⟩) (World.block_lt_of_cell? W _ d2) hnb).trans d2
      have e3 := (ho.cell (p := ⟨b, off + m * 4 + 3, none⟩) (World.block_lt_of_cell? W _ d3) hnb).trans d3
      obtain ⟨fn, tmps, assign, body, hy, hR⟩ := hY _ (es[m]'(by omega)) wr hJs (by simp; omega)
      have hmi := hidx m (by omega)
      obtain ⟨x, hx⟩ : ∃ x, es[m]'(by omega) = x := ⟨_, rfl⟩
      rw [hx] at e0 e1 e2 e3 hy hR hmi
      rw [hmi] at hy
      unfold stpV at hy
      have HD : Hid ((es.drop m).reverse = (es.drop (m + 1)).reverse ++ [x]) := hide (by rw [List.drop_eq_getElem_cons (by omega : m < es.length), List.reverse_cons, hx])
      clear hx hmi d0 d1 d2 d3 hme
      gi_wp2
      refine hR.mono ?_
      rintro e W3 (⟨rfl, hJ3, hk3⟩ | ⟨rfl, hJx3⟩)
      · gi_wp2
        go_roundw
        case rel => exact ⟨m, by omega, rfl, by rw [HD.out]; exact hJ3, ho.trans hk3⟩
        case measure => simp [intOf]
      · gi_wp2
        refine bodyPost_ret (results_none rfl _ _ _) rfl ?_
        exact ⟨⟨_, rfl⟩, .inr ⟨_, trivial, hJx3⟩⟩

set_option maxHeartbeats 1000000 in
theorem back_in (F : Fence) (n : Nat) (hf : F.fn 64) (hro : F.round = none) (v : Value) (hv : v.oneCell' = true) (w : World) :
    CallsIn F n Try.prog 64 #[v] w fun e w' => e = .returned (.func (.func 68) #[] #[.pointer (some ⟨w.heap.size, 0, none⟩)]) ∧ w' = w.alloc (.cells #[v] 84) := by
  refine callsIn_of_wp Try.func64 rfl hf ?_ hro
  simp only [Try.ntmps64, List.size_toArray, List.length_cons, List.length_nil, Nat.reduceAdd, Nat.reduceSub, Array.replicate_succ, Array.replicate_zero, List.push_toArray, List.append_toArray, List.nil_append, List.cons_append]
  cases v <;> simp [Value.oneCell'] at hv
  all_goals
    gi_wp2
    go_ret
    exact ⟨rfl, rfl⟩
end Go.Proofs.Ytafpbdmggnfdnaa
