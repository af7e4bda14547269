/- An argument that is a slice of tokens, opened to cells. -/
import Derived.Test.YtniofjeefphlmaaCopy
import Derived.Deep.Slices
import Derived.Deep.Fields
import Derived.ProofKit
namespace Go.Proofs.Ytniofjeefphlmaa
open Go.ChangeShapes Go.WideShapes Go.ChangeAt Go.RowKit Go.Deep
set_option linter.unusedVariables false

section
variable {H : Type} {enc : TypeId × Value → H} {w : World} {base : Nat} {spare : Nat → Bool} {held : Bool}
theorem tok_read {n : Nat} {cs : List Value} {x : DataW H × List MemPlace} (h : DataW.trod enc Try.prog w base spare held n 28 cs = some x) : ∃ t : Tk, cs = cell3 t := by
  obtain ⟨xs, m, _, _, hl, hxl, hf⟩ := DataW.trod_struct Try.underlying28 h
  rw [show Try.prog.cellsOf 28 = 3 by kernel_rfl] at hl
  match cs, hl with
  | [c0, c1, c2], _ =>
    have hc1 : Try.prog.cellsOf 3 = 1 := by kernel_rfl
    have h0 : DataW.trod enc Try.prog w base spare held m 3 [c0] = xs[0]? := by
      have h := hf 0 _ rfl
      have e : (Try.prog.cellsOf 3) = 1 := hc1
      refine Eq.trans ?_ h
      show _ = DataW.trod enc Try.prog w base spare held m 3 (([c0, c1, c2].drop 0).take (Try.prog.cellsOf 3))
      rw [e]; rfl
    have h1 : DataW.trod enc Try.prog w base spare held m 3 [c1] = xs[1]? := by
      have h := hf 1 _ rfl
      have e : (Try.prog.cellsOf 3) = 1 := hc1
      refine Eq.trans ?_ h
      show _ = DataW.trod enc Try.prog w base spare held m 3 (([c0, c1, c2].drop 1).take (Try.prog.cellsOf 3))
      rw [e]; rfl
    have h2 : DataW.trod enc Try.prog w base spare held m 3 [c2] = xs[2]? := by
      have h := hf 2 _ rfl
      have e : (Try.prog.cellsOf 3) = 1 := hc1
      refine Eq.trans ?_ h
      show _ = DataW.trod enc Try.prog w base spare held m 3 (([c0, c1, c2].drop 2).take (Try.prog.cellsOf 3))
      rw [e]; rfl
    have hx3 : xs.length = 3 := by rw [hxl]; rfl
    rw [List.getElem?_eq_getElem (by omega)] at h0 h1 h2
    obtain ⟨a, ea, _⟩ := DataW.trod_int Try.underlying3 h0
    obtain ⟨b, eb, _⟩ := DataW.trod_int Try.underlying3 h1
    obtain ⟨c, ec, _⟩ := DataW.trod_int Try.underlying3 h2
    refine ⟨(a, b, c), ?_⟩
    simp at ea eb ec
    rw [ea, eb, ec]; rfl
theorem open_toks {W : World} {r : Reach} {b0 : Nat} {v : Value} {d : DataW H} {p : List MemPlace} (hv : Value.okWide Try.prog W r b0 24 v) (h : DataW.Trod enc Try.prog W base spare held 24 v d p) :
    ∃ (A : Option Addr) (c : Nat) (xs : List Tk), v = .slice A xs.length c ∧ Toks W W.heap.size A xs ∧ (A = none → c = 0) ∧ xs.length ≤ maxLen := by
  obtain ⟨a0, len0, cap0, rfl⟩ := okWide_slice Try.underlying24 hv
  obtain ⟨fuel, hf⟩ := h
  rcases open_slice Try.underlying24 hf with ⟨hcs, _⟩ | ⟨a, len, cap, m, n, D, Pl, hcs, _, hl, hm, hmm, _, hi⟩
  · simp [Value.cells] at hcs
    obtain ⟨rfl, rfl, rfl⟩ := hcs
    exact ⟨none, 0, [], rfl, fun h => absurd rfl h, fun _ => rfl, by simp⟩
  · simp [Value.cells] at hcs
    obtain ⟨rfl, rfl, rfl⟩ := hcs
    have hlm : len0 ≤ m := by rw [hmm]; split <;> omega
    have h3 : Try.prog.cellsOf 28 = 3 := by kernel_rfl
    have hone : ∀ i, i < len0 → ∃ t : Tk, ∀ j u, (cell3 t)[j]? = some u → W.cell? (a.add (i * 3 + j)) = some u := by
      intro i hi'
      obtain ⟨cs', hc, ht⟩ := hi i (by omega)
      rw [h3] at hc
      obtain ⟨t, rfl⟩ := tok_read ht
      obtain ⟨_, _, hat⟩ := World.cells?_some hc
      refine ⟨t, fun j u hu => ?_⟩
      have hj : j < 3 := by
        have := (List.getElem?_eq_some_iff.1 hu).1
        simpa [cell3] using this
      have := hat j hj
      rw [Go.Deep.add_add] at this
      rw [this]; exact hu
    have hlist : ∀ k, k ≤ len0 → ∃ xs : List Tk, xs.length = k ∧ ∀ j u, (cellsOf xs)[j]? = some u → W.cell? (a.add j) = some u := by
      intro k
      induction k with
      | zero => intro _; exact ⟨[], rfl, by simp [cellsOf]⟩
      | succ k ih =>
        intro hk
        obtain ⟨xs, hx, hc⟩ := ih (by omega)
        obtain ⟨t, ht⟩ := hone k (by omega)
        refine ⟨xs ++ [t], by simp [hx], fun j u hu => ?_⟩
        rw [cellsOf_snoc] at hu
        by_cases hj : j < (cellsOf xs).length
        · rw [List.getElem?_append_left hj] at hu; exact hc j u hu
        · rw [List.getElem?_append_right (by omega)] at hu
          have hl3 := cellsOf_length xs
          have := ht _ u hu
          rw [hl3, hx] at this
          rwa [show k * 3 + (j - k * 3) = j by rw [hl3, hx] at hj; omega] at this
    obtain ⟨xs, hx, hc⟩ := hlist len0 (Nat.le_refl _)
    subst hx
    refine ⟨some a, cap0, xs, rfl, fun hne => ?_, by simp, by omega⟩
    obtain ⟨b, off, sp⟩ := a
    have hpos : 0 < (cellsOf xs).length := by rw [cellsOf_length]; have := List.length_pos_iff.2 hne; omega
    have h0 := hc 0 _ (List.getElem?_eq_getElem hpos)
    have hsp : sp = none := by simpa [Addr.add] using World.cell?_spot h0
    subst hsp
    refine ⟨b, off, rfl, ?_, fun j u hu => ?_⟩
    · have := World.block_lt_of_cell? W _ h0
      rwa [addr_add] at this
    · have := hc j u hu
      rwa [addr_add] at this
end
end Go.Proofs.Ytniofjeefphlmaa
