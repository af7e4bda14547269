/- A map from int to int of one's own, inside a fence; slices.Backward over numbers as a contract of an iterator. -/
import Derived.Test.YtafpbdmggnfdnaaSeq
import Derived.Test.YtafpbdmggnfdnaaMapInt
import Derived.Maps.OwnIn
namespace Go.Proofs.Ytafpbdmggnfdnaa
open Go.RowKit Go.Shelf Go.Maps
set_option linter.unusedVariables false

theorem wpListIn_map_set {F : Fence} {nF : Nat} {w : World} {ops : Array Oper} {rest : List Oper} {o : Oper} {a : Act} {Q : Exit → Act → World → Prop} (hg : o.guard = none) (m x v : Operand) (hop : o.op = Op.mapUpdate 76 m x v) (b n : Nat) (f : Nat → Nat)
    (hm : a.eval m = .map (some b)) (h : MapIs w b n f) (hn : n < 1000000000) (key val : Nat) (hx : a.eval x = .int .i64 (key : Int)) (hv : a.eval v = .int .i64 (val : Int)) (hk : key < 4611686018427387904) (hvl : val < 4611686018427387904)
    (hK : ∀ w', MapIs w' b (n + 1) (updN f key val) → w.grownBy w' (some b) → wpListIn F nF Try.prog ops Q rest (a.put o.dst undef) w') : wpListIn F nF Try.prog ops Q (o :: rest) a w := by
  obtain ⟨D, hown, hat⟩ := h
  have hD : IsMap D := by obtain ⟨es, clock, _, _, _, e⟩ := hown; rw [e]; exact ⟨_, rfl⟩
  refine wpListIn_mapUpdate_own w hg m x v 76 hop 3 3 (int_keyed Try.underlying3) Try.underlying76 (plainElem Try.prog 3) b n D hm hown (by unfold maxLen; omega) _ _ (.int .i64 (key : Int)) hx hv (keyOf_int_mk Try.underlying3 (int_wf key hk)) (.lit (.int .i64 (val : Int))) [] (plainElem_int Try.underlying3 (int_wf val hvl)) (fun w' hown' hgrow => hK w' ⟨_, hown', fun k hkk => ?_⟩ hgrow)
  by_cases e : k = key
  · subst e
    rw [updN_same, atKey_put_same hD (by simp [WideAt.IsKeyLit])]
  · rw [updN_other _ _ _ _ e, atKey_put_other (by intro e'; injection e' with _ e'; exact e (by omega))]
    exact hat k hkk
theorem wpListIn_map_get {F : Fence} {nF : Nat} {w : World} {ops : Array Oper} {rest : List Oper} {o : Oper} {a : Act} {Q : Exit → Act → World → Prop} (hg : o.guard = none) (m x : Operand) (hop : o.op = Op.lookup 76 m x false) (b n : Nat) (f : Nat → Nat)
    (hm : a.eval m = .map (some b)) (h : MapIs w b n f) (key : Nat) (hx : a.eval x = .int .i64 (key : Int)) (hk : key < 4611686018427387904)
    (hK : wpListIn F nF Try.prog ops Q rest (a.put o.dst (.int .i64 (f key : Int))) w) : wpListIn F nF Try.prog ops Q (o :: rest) a w := by
  obtain ⟨D, hown, hat⟩ := h
  refine wpListIn_lookup_own_int w hg m x 76 hop 3 3 .i64 (int_keyed Try.underlying3) Try.underlying76 Try.underlying3 (zeroInt w) b n D hm hown _ (.int .i64 (key : Int)) hx (keyOf_int_mk Try.underlying3 (int_wf key hk)) (fun c hc _ => ?_)
  rw [hat key hk] at hc
  injection hc with hc
  injection hc with _ hc
  rw [← hc]; exact hK
attribute [local go_sem] Oper.semAt_some
set_option maxRecDepth 100000 in
theorem backInts_call (F : Fence) (n : Nat) (hf : F.fn 62) (hro : F.round = none) (A : Option Addr) (len cap : Nat) (w : World) :
    CallsIn F n Try.prog 62 #[.slice A len cap] w fun e w' => e = .returned (.func (.func 67) #[] #[.pointer (some ⟨w.heap.size, 0, none⟩)]) ∧ w' = w.alloc (.cells #[.slice A len cap] 30) := by
  refine callsIn_of_wp Try.func62 rfl hf ?_ hro
  simp only [Try.ntmps62, List.size_toArray, List.length_cons, List.length_nil, Nat.reduceAdd, Nat.reduceSub, Array.replicate_succ, Array.replicate_zero, List.push_toArray, List.append_toArray, List.nil_append, List.cons_append]
  gi_wp2
  go_ret
  exact ⟨rfl, rfl⟩
/-- slices.Backward over numbers. -/
theorem backInts_seq (n : Nat) (hn : 1 ≤ n) (Bs : Nat) (Fp : Nat → Prop) (A : Option Addr) (cap : Nat) (xs : List Nat) (hlen : xs.length ≤ 1000000) (w : World) (hB : w.cell? ⟨Bs, 0, none⟩ = some (.slice A xs.length cap)) (hBF : ¬ Fp Bs) (hc : Nats w A xs) (hcF : ∀ a, A = some a → ¬ Fp a.block) :
    SeqZ n Try.prog 67 #[.pointer (some ⟨Bs, 0, none⟩)] (fun x : Nat × Nat => #[.int .i64 (x.2 : Int), .int .i64 (x.1 : Int)]) Fp (xs.zipIdx).reverse w := by
  intro l J Jx W hb hJ hJx hY h0
  have hBl := World.block_lt_of_cell? w _ hB
  have cx : W.cell? ⟨Bs, 0, none⟩ = some (.slice A xs.length cap) := (hb.cell (p := ⟨Bs, 0, none⟩) hBl).trans hB
  have := backInts_in n hn l Bs Fp A cap xs hlen (fun pre M W1 => J pre M W1 ∧ (∀ b, M b → W.heap.size ≤ b) ∧ W.heap.size ≤ W1.heap.size) Jx W (fun pre M W1 h => h.2.1) ?_ cx hBF (Ints.below hc hb) hcF ⟨h0, fun _ hf => hf.elim, Nat.le_refl _⟩
  · refine this.mono ?_
    rintro e W' ⟨h1, (⟨M, h2, -⟩ | h2)⟩
    · exact ⟨h1, .inl ⟨M, h2⟩⟩
    · exact ⟨h1, .inr h2⟩
  · rintro pre x M W1 ⟨j1, j2, j3⟩ hpre
    obtain ⟨fn, tmps, assign, body, hy, hR⟩ := hY pre x M W1 j1 hpre
    refine ⟨fn, tmps, assign, body, hy, hR.mono ?_⟩
    rintro e W' (⟨rfl, ⟨M', i1, i2⟩, i3⟩ | h2)
    · exact .inl ⟨rfl, ⟨M', ⟨i1, fun b hb => by rcases i2 b hb with h3 | h3; exact j2 b h3; omega, Nat.le_trans j3 i3.size⟩, i2⟩, i3⟩
    · exact .inr h2
end Go.Proofs.Ytafpbdmggnfdnaa
