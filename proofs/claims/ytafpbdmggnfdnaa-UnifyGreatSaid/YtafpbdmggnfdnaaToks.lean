/- Slices of tokens in memory: what a slice reads as; SameTokens. -/
import Derived.Test.YtafpbdmggnfdnaaLex
import Derived.RegionTactic
import Derived.Deep.QuietTactic
import Derived.BigQuiet
import Derived.Deep.Draws
namespace Go.Proofs.Ytafpbdmggnfdnaa
open Go.RowKit
set_option linter.unusedVariables false

/-- The slice with this address holds these tokens, below block B. -/
def Toks (w : World) (B : Nat) (A : Option Addr) (xs : List Tk) : Prop :=
  xs ≠ [] → ∃ b off, A = some ⟨b, off, none⟩ ∧ b < B ∧ ∀ j u, (cellsOf xs)[j]? = some u → w.cell? ⟨b, off + j, none⟩ = some u

theorem cellsOf_at (xs : List Tk) (k : Nat) (t : Tk) (h : xs[k]? = some t) : (cellsOf xs)[k * 3]? = some (.int .i64 t.1) ∧ (cellsOf xs)[k * 3 + 1]? = some (.int .i64 t.2.1) ∧ (cellsOf xs)[k * 3 + 2]? = some (.int .i64 t.2.2) := by
  induction xs generalizing k with
  | nil => simp at h
  | cons x xs ih =>
    rcases k with _ | k
    · simp at h; subst h; simp [cellsOf, cell3]
    · simp at h
      obtain ⟨h1, h2, h3⟩ := ih k h
      have e : ∀ j, (cellsOf (x :: xs))[j + 3]? = (cellsOf xs)[j]? := by
        intro j
        simp only [cellsOf, List.flatMap_cons, cell3]
        simp
      refine ⟨?_, ?_, ?_⟩
      · rw [show (k + 1) * 3 = k * 3 + 3 by omega, e]; exact h1
      · rw [show (k + 1) * 3 + 1 = k * 3 + 1 + 3 by omega, e]; exact h2
      · rw [show (k + 1) * 3 + 2 = k * 3 + 2 + 3 by omega, e]; exact h3

section
variable {w w' : World} {B B' : Nat} {A : Option Addr} {xs : List Tk}
theorem Toks.at_ (h : Toks w B A xs) (k : Nat) (hk : k < xs.length) : ∃ b off, A = some ⟨b, off, none⟩ ∧ b < B ∧
    w.cell? ⟨b, off + k * 3, none⟩ = some (.int .i64 xs[k].1) ∧ w.cell? ⟨b, off + k * 3 + 1, none⟩ = some (.int .i64 xs[k].2.1) ∧ w.cell? ⟨b, off + k * 3 + 2, none⟩ = some (.int .i64 xs[k].2.2) := by
  obtain ⟨b, off, e, hb, hc⟩ := h (by intro e; subst e; simp at hk)
  obtain ⟨h1, h2, h3⟩ := cellsOf_at xs k xs[k] (List.getElem?_eq_getElem hk)
  exact ⟨b, off, e, hb, hc _ _ h1, by rw [Nat.add_assoc]; exact hc _ _ h2, by rw [Nat.add_assoc]; exact hc _ _ h3⟩
theorem Toks.keep (h : Toks w B A xs) (hk : ∀ p : Addr, p.block < B → w'.cell? p = w.cell? p) : Toks w' B A xs := by
  intro hn
  obtain ⟨b, off, e, hb, hc⟩ := h hn
  exact ⟨b, off, e, hb, fun j u hu => (hk _ hb).trans (hc j u hu)⟩
theorem Toks.below (h : Toks w B A xs) (hb : Below B w w') : Toks w' B A xs := h.keep fun _ hp => hb.cell hp
theorem Toks.more (h : Toks w B A xs) (hB : B ≤ B') : Toks w B' A xs := by
  intro hn
  obtain ⟨b, off, e, hb, hc⟩ := h hn
  exact ⟨b, off, e, by omega, hc⟩
theorem Toks.of_own {base : Nat} {e : TypeId} {v : Value} (h : w.ownsRow base e 3 v xs.length (cellsOf xs)) : ∃ A c, v = .slice A xs.length c ∧ Toks w w.heap.size A xs := by
  rcases h.2 with ⟨hv, hn⟩ | ⟨g, cap, cur, hv, _, hh, _⟩
  · exact ⟨none, 0, by rw [hn]; exact hv, fun hne => absurd (List.eq_nil_of_length_eq_zero hn) hne⟩
  · refine ⟨_, cap, hv, fun _ => ⟨g, 0, rfl, ?_, fun j u hu => ?_⟩⟩
    · rcases Nat.lt_or_ge g w.heap.size with hlt | hge
      · exact hlt
      · rw [Array.getElem?_eq_none hge] at hh; cases hh
    · have := h.cells (g := g) (by rw [hv]; rfl) j u hu
      rcases Nat.eq_zero_or_pos j with rfl | hj
      · simpa [Addr.add] using this
      · simpa [Addr.add, show ¬ j = 0 by omega] using this
end
theorem Toks.new (w : World) (xs : List Tk) (t : TypeId) : Toks (w.alloc (.cells (cellsOf xs).toArray t)) (w.heap.size + 1) (some ⟨w.heap.size, 0, none⟩) xs := by
  intro _
  refine ⟨_, _, rfl, by omega, fun j u hu => ?_⟩
  rw [cell_of_row _ _ _ _ _ _ (heap_alloc_new w _)]
  simpa using hu
theorem below_drewN {B : Nat} {a w : World} (h : Below B a w) (n : Nat) : Below B a (w.drewN n) := ⟨h.os, h.tape, h.output, h.size, h.block⟩

theorem tokUnder : Try.prog.underlying 122 = some (.struct (Try.prog.fieldsOf 122)) := by kernel_rfl
theorem tokHeld : Try.prog.stoodInHeld 122 = false := by kernel_rfl
theorem tokGuard : Try.prog.eqGuardType Try.prog.depth 122 = false := by kernel_rfl
theorem tokFields : ((Try.prog.fieldsOf 122).toList.map fun f => (f.name == "_", f.type, f.offset)) = [(false, 3, 0), (false, 3, 1), (false, 3, 2)] := by kernel_rfl
theorem intPart (cs : Array Value) (i : Nat) (v : Value) (w : World) (h : cs[i]? = some v) : (part 3 cs i).run Try.prog w = .ok v w := by
  have ha : (isAgg 3).run Try.prog w = .ok false w := by kernel_rfl
  unfold part
  rw [Sem.run_bind, ha]
  simp [h]
theorem eqf3 (d : Nat) (a b c x y z : Int) (w : World) : (Op.eqFields (d + 1) #[.int .i64 a, .int .i64 b, .int .i64 c] #[.int .i64 x, .int .i64 y, .int .i64 z] (Try.prog.fieldsOf 122).toList).run Try.prog w = .ok (a == x && b == y && c == z) w := by
  have h := tokFields
  generalize (Try.prog.fieldsOf 122).toList = fs at *
  rcases fs with _ | ⟨f0, _ | ⟨f1, _ | ⟨f2, _ | _⟩⟩⟩
  · simp at h
  · simp at h
  · simp at h
  · simp at h
    obtain ⟨⟨n0, t0, o0⟩, ⟨n1, t1, o1⟩, n2, t2, o2⟩ := h
    have p0 := fun W => intPart #[Value.int .i64 a, .int .i64 b, .int .i64 c] 0 _ W rfl
    have p1 := fun W => intPart #[Value.int .i64 a, .int .i64 b, .int .i64 c] 1 _ W rfl
    have p2 := fun W => intPart #[Value.int .i64 a, .int .i64 b, .int .i64 c] 2 _ W rfl
    have q0 := fun W => intPart #[Value.int .i64 x, .int .i64 y, .int .i64 z] 0 _ W rfl
    have q1 := fun W => intPart #[Value.int .i64 x, .int .i64 y, .int .i64 z] 1 _ W rfl
    have q2 := fun W => intPart #[Value.int .i64 x, .int .i64 y, .int .i64 z] 2 _ W rfl
    have r1 := fun W u v => run_equalIn_int (P := Try.prog) W d _ .i64 _ u v Try.underlying3
    cases h1 : a == x <;> cases h2 : b == y <;> cases h3 : c == z <;> simp [Op.eqFields, n0, n1, n2, t0, t1, t2, o0, o1, o2, p0, p1, p2, q0, q1, q2, r1, h1, h2, h3, -beq_eq_false_iff_ne, -beq_iff_eq]
  · simp at h
theorem tok_neq (a b c x y z : Int) (w : World) : (binOp .neq 122 (.agg #[.int .i64 a, .int .i64 b, .int .i64 c]) (.agg #[.int .i64 x, .int .i64 y, .int .i64 z])).run Try.prog w = .ok (.bool (!(a == x && b == y && c == z))) w := by
  rw [run_neq_struct, run_equalIn_agg w 9999 _ _ _ tokUnder tokHeld, eqf3 9998]; rfl
theorem tok_eql (a b c x y z : Int) (w : World) : (binOp .eql 122 (.agg #[.int .i64 a, .int .i64 b, .int .i64 c]) (.agg #[.int .i64 x, .int .i64 y, .int .i64 z])).run Try.prog w = .ok (.bool (a == x && b == y && c == z)) w := by
  rw [run_eql_struct, run_equalIn_agg w 9999 _ _ _ tokUnder tokHeld, eqf3 9998]; rfl

end Go.Proofs.Ytafpbdmggnfdnaa
