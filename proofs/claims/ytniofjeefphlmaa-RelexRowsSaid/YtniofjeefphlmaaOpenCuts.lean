/- An argument that is a slice of edits (two integers, a string), opened to cells. -/
import Derived.Test.YtniofjeefphlmaaLawRows
import Derived.Deep.Slices
import Derived.Deep.Fields
import Derived.ProofKit
namespace Go.Proofs.Ytniofjeefphlmaa
open Go.ChangeShapes Go.WideShapes Go.ChangeAt Go.RowKit Go.Deep
set_option linter.unusedVariables false

def cellCut (t : Ct) : List Value := [.int .i64 t.1, .int .i64 t.2.1, .string t.2.2]
section
variable {H : Type} {enc : TypeId × Value → H} {w : World} {base : Nat} {spare : Nat → Bool} {held : Bool}
theorem cut_read {n : Nat} {cs : List Value} {x : DataW H × List MemPlace} (h : DataW.trod enc Try.prog w base spare held n 41 cs = some x) : ∃ t : Ct, cs = cellCut t ∧ t.2.2.size ≤ maxLen := by
  obtain ⟨xs, m, _, _, hl, hxl, hf⟩ := DataW.trod_struct Try.underlying41 h
  rw [show Try.prog.cellsOf 41 = 3 by kernel_rfl] at hl
  match cs, hl with
  | [c0, c1, c2], _ =>
    have hc1 : Try.prog.cellsOf 3 = 1 := by kernel_rfl
    have hc2 : Try.prog.cellsOf 9 = 1 := by kernel_rfl
    have h0 : DataW.trod enc Try.prog w base spare held m 3 [c0] = xs[0]? := by
      have h := hf 0 _ rfl
      have e : (Try.prog.cellsOf 3) = 1 := hc1
      refine Eq.trans ?_ h
      show _ = DataW.trod enc Try.prog w base spare held m 3 (([c0, c1, c2].drop 0).take (Try.prog.cellsOf 3))
      rw [e]; rfl
    have h1 : DataW.trod enc Try.prog w base spare held m 3 [c1] = xs[1]? := by
      have h := hf 1 _ rfl
      have e : (Try.prog.cellsOf 3) = 1 := hc1
      refine Eq.trans ?_ h
      show _ = DataW.trod enc Try.prog w base spare held m 3 (([c0, c1, c2].drop 1).take (Try.prog.cellsOf 3))
      rw [e]; rfl
    have h2 : DataW.trod enc Try.prog w base spare held m 9 [c2] = xs[2]? := by
      have h := hf 2 _ rfl
      have e : (Try.prog.cellsOf 9) = 1 := hc2
      refine Eq.trans ?_ h
      show _ = DataW.trod enc Try.prog w base spare held m 9 (([c0, c1, c2].drop 2).take (Try.prog.cellsOf 9))
      rw [e]; rfl
    have hx3 : xs.length = 3 := by rw [hxl]; rfl
    rw [List.getElem?_eq_getElem (by omega)] at h0 h1 h2
    obtain ⟨a, ea, _⟩ := DataW.trod_int Try.underlying3 h0
    obtain ⟨b, eb, _⟩ := DataW.trod_int Try.underlying3 h1
    obtain ⟨c, ec, _, hc⟩ := DataW.trod_string Try.underlying9 h2
    refine ⟨(a, b, c), ?_, hc⟩
    simp at ea eb ec
    rw [ea, eb, ec]; rfl
theorem open_cuts {W : World} {r : Reach} {b0 : Nat} {v : Value} {d : DataW H} {p : List MemPlace} (hv : Value.okWide Try.prog W r b0 39 v) (h : DataW.Trod enc Try.prog W base spare held 39 v d p) :
    ∃ (A : Option Addr) (c : Nat) (xs : List Ct), v = .slice A xs.length c ∧ Cts W W.heap.size A xs ∧ xs.length ≤ maxLen ∧ ∀ x ∈ xs, x.2.2.size ≤ maxLen := by
  obtain ⟨a0, len0, cap0, rfl⟩ := okWide_slice Try.underlying39 hv
  obtain ⟨fuel, hf⟩ := h
  rcases open_slice Try.underlying39 hf with ⟨hcs, _⟩ | ⟨a, len, cap, m, n, D, Pl, hcs, _, hl, hm, hmm, _, hi⟩
  · simp [Value.cells] at hcs
    obtain ⟨rfl, rfl, rfl⟩ := hcs
    exact ⟨none, 0, [], rfl, fun h => absurd rfl h, by simp, by simp⟩
  · simp [Value.cells] at hcs
    obtain ⟨rfl, rfl, rfl⟩ := hcs
    have hlm : len0 ≤ m := by rw [hmm]; split <;> omega
    have h3 : Try.prog.cellsOf 41 = 3 := by kernel_rfl
    have hone : ∀ i, i < len0 → ∃ t : Ct, t.2.2.size ≤ maxLen ∧ ∀ j u, (cellCut t)[j]? = some u → W.cell? (a.add (i * 3 + j)) = some u := by
      intro i hi'
      obtain ⟨cs', hc, ht⟩ := hi i (by omega)
      rw [h3] at hc
      obtain ⟨t, rfl, htm⟩ := cut_read ht
      obtain ⟨_, _, hat⟩ := World.cells?_some hc
      refine ⟨t, htm, fun j u hu => ?_⟩
      have hj : j < 3 := by
        have := (List.getElem?_eq_some_iff.1 hu).1
        simpa [cellCut] using this
      have := hat j hj
      rw [Go.Deep.add_add] at this
      rw [this]; exact hu
    have hlist : ∀ k, k ≤ len0 → ∃ xs : List Ct, xs.length = k ∧ (∀ x ∈ xs, x.2.2.size ≤ maxLen) ∧ ∀ i (hi : i < xs.length) j u, (cellCut xs[i])[j]? = some u → W.cell? (a.add (i * 3 + j)) = some u := by
      intro k
      induction k with
      | zero => intro _; exact ⟨[], rfl, by simp, by simp⟩
      | succ k ih =>
        intro hk
        obtain ⟨xs, hx, hm1, hc⟩ := ih (by omega)
        obtain ⟨t, htm, ht⟩ := hone k (by omega)
        refine ⟨xs ++ [t], by simp [hx], ?_, fun i hi j u hu => ?_⟩
        · intro x hx'
          rcases List.mem_append.1 hx' with h | h
          · exact hm1 x h
          · simp at h; subst h; exact htm
        · by_cases hj : i < xs.length
          · rw [List.getElem_append_left hj] at hu; exact hc i hj j u hu
          · have he : i = xs.length := by simp at hi; omega
            subst he
            simp at hu
            rw [hx]; exact ht j u hu
    obtain ⟨xs, hx, hm1, hc⟩ := hlist len0 (Nat.le_refl _)
    subst hx
    refine ⟨some a, cap0, xs, rfl, fun hne => ?_, by omega, hm1⟩
    obtain ⟨b, off, sp⟩ := a
    have hpos := List.length_pos_iff.2 hne
    have h0 := hc 0 hpos 0 _ rfl
    have hsp : sp = none := by simpa [Addr.add] using World.cell?_spot h0
    subst hsp
    refine ⟨b, off, rfl, ?_, fun k hk => ?_⟩
    · have := World.block_lt_of_cell? W _ h0
      rwa [addr_add] at this
    · have e0 := hc k hk 0 _ rfl
      have e1 := hc k hk 1 _ rfl
      have e2 := hc k hk 2 _ rfl
      rw [addr_add] at e0 e1 e2
      exact ⟨e0, e1, e2⟩
end
end Go.Proofs.Ytniofjeefphlmaa
