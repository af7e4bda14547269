/- Part 19 of the proof of UnifyTypes: what follows was kept as these texts: OpenOps. -/
import Derived.Test.YtafpbdmggnfdnaaUnifyTypesPt1
import Derived.Test.YtafpbdmggnfdnaaUnifyTypesPt2
import Derived.Test.YtafpbdmggnfdnaaUnifyTypesPt3
import Derived.Test.YtafpbdmggnfdnaaUnifyTypesPt4
import Derived.Test.YtafpbdmggnfdnaaUnifyTypesPt5
import Derived.Test.YtafpbdmggnfdnaaUnifyTypesPt6
import Derived.Test.YtafpbdmggnfdnaaUnifyTypesPt7
import Derived.Test.YtafpbdmggnfdnaaUnifyTypesPt8
import Derived.Test.YtafpbdmggnfdnaaUnifyTypesPt9
import Derived.Test.YtafpbdmggnfdnaaUnifyTypesPt10
import Derived.Test.YtafpbdmggnfdnaaUnifyTypesPt11
import Derived.Test.YtafpbdmggnfdnaaUnifyTypesPt12
import Derived.Test.YtafpbdmggnfdnaaUnifyTypesPt13
import Derived.Test.YtafpbdmggnfdnaaUnifyTypesPt14
import Derived.Test.YtafpbdmggnfdnaaUnifyTypesPt15
import Derived.Test.YtafpbdmggnfdnaaUnifyTypesPt16
import Derived.Test.YtafpbdmggnfdnaaUnifyTypesPt17
import Derived.Test.YtafpbdmggnfdnaaUnifyTypesPt18
import Derived.Deep.Slices
import Derived.Deep.Fields
import Derived.ProofKit
import Derived.SizedLaws
/- An argument that is a script, or a slice of integers, opened to cells; lengths by the form's reach. -/
namespace Go.Proofs.Ytafpbdmggnfdnaa
open Go.ChangeShapes Go.WideShapes Go.ChangeAt Go.RowKit Go.Deep
set_option linter.unusedVariables false

def opCell (o : OpV) : List Value := [.int .i64 o.what, .string o.name, .slice o.ad o.args.length o.cap]
section
variable {H : Type} {enc : TypeId × Value → H} {w : World} {base : Nat} {spare : Nat → Bool} {held : Bool}
theorem bytes_int : Try.prog.bytesOf 3 = 8 := by kernel_rfl
theorem bytes_op : Try.prog.bytesOf 63 = 48 := by kernel_rfl
theorem cells_int : Try.prog.cellsOf 3 = 1 := by kernel_rfl
set_option maxRecDepth 100000 in
theorem ints_read {n : Nat} {cs : List Value} {x : DataW H × List MemPlace} (h : DataW.trod enc Try.prog w base spare held n 30 cs = some x) (hs : ∀ k ∈ x.1.weights Try.prog 30, k ≤ reachBytes) :
    ∃ (A : Option Addr) (xs : List Int) (c : Nat), cs = [.slice A xs.length c] ∧ Ints w A xs ∧ xs.length ≤ 140737488351232 ∧ xs.length ≤ c := by
  rcases open_slice1 Try.underlying30 cells_int h with ⟨hcs, _⟩ | ⟨a, len, cap, m, k, V, D, Pl, hcs, _, hl, hm, hmm, hx, hi⟩
  · exact ⟨none, [], 0, by rw [hcs]; rfl, fun h => absurd rfl h, by simp, by simp⟩
  · have hlm : len ≤ m := by rw [hmm]; split <;> omega
    have hall : ∀ i, i < len → ∃ z : Int, w.cell? (a.add i) = some (.int .i64 z) := by
      intro i hi'
      obtain ⟨h1, h2⟩ := hi i (by omega)
      obtain ⟨z, ez, _⟩ := DataW.trod_int Try.underlying3 h2
      exact ⟨z, by rw [h1]; simp at ez; rw [ez]⟩
    have hlist : ∀ k, k ≤ len → ∃ xs : List Int, xs.length = k ∧ ∀ i z, xs[i]? = some z → w.cell? (a.add i) = some (.int .i64 z) := by
      intro k
      induction k with
      | zero => intro _; exact ⟨[], rfl, by simp⟩
      | succ k ih =>
        intro hk
        obtain ⟨xs, hxl, hc⟩ := ih (by omega)
        obtain ⟨z, hz⟩ := hall k (by omega)
        refine ⟨xs ++ [z], by simp [hxl], fun i y hy => ?_⟩
        by_cases hil : i < xs.length
        · rw [List.getElem?_append_left hil] at hy; exact hc i y hy
        · have : i = xs.length := by
            have := (List.getElem?_eq_some_iff.1 hy).1
            simp at this; omega
          subst this
          simp at hy
          subst hy; rw [hxl]; exact hz
    obtain ⟨xs, hxl, hc⟩ := hlist len (Nat.le_refl _)
    have hsz : (len + (m - len)) * 8 ≤ reachBytes := by
      refine hs _ ?_
      rw [hx]
      simp [DataW.weights, Try.underlying30, bytes_int]
    refine ⟨some a, xs, cap, by rw [hcs, hxl], fun hne => ?_, by unfold reachBytes at hsz; omega, by omega⟩
    have hpos := List.length_pos_iff.2 hne
    obtain ⟨b, off, sp⟩ := a
    have h0 := hc 0 xs[0] (List.getElem?_eq_getElem hpos)
    have hsp : sp = none := by simpa [Addr.add] using World.cell?_spot h0
    subst hsp
    refine ⟨b, off, rfl, ?_, fun k x hk => ?_⟩
    · have := World.block_lt_of_cell? w _ h0
      rwa [addr_add'] at this
    · have := hc k x hk
      rwa [addr_add'] at this
set_option maxRecDepth 100000 in
theorem op_read {n : Nat} {cs : List Value} {x : DataW H × List MemPlace} (h : DataW.trod enc Try.prog w base spare held n 63 cs = some x) (hs : ∀ k ∈ x.1.weights Try.prog 63, k ≤ reachBytes) :
    ∃ o : OpV, cs = opCell o ∧ Ints w o.ad o.args ∧ o.args.length ≤ 140737488351232 ∧ o.name.size ≤ 140737488351232 := by
  obtain ⟨xs, m, _, hx, hl, hxl, hf⟩ := DataW.trod_struct Try.underlying63 h
  rw [show Try.prog.cellsOf 63 = 3 by kernel_rfl] at hl
  match cs, hl with
  | [c0, c1, c2], _ =>
    have hc2 : Try.prog.cellsOf 9 = 1 := by kernel_rfl
    have hc3 : Try.prog.cellsOf 30 = 1 := by kernel_rfl
    have h0 : DataW.trod enc Try.prog w base spare held m 3 [c0] = xs[0]? := by
      have h := hf 0 _ rfl
      refine Eq.trans ?_ h
      show _ = DataW.trod enc Try.prog w base spare held m 3 (([c0, c1, c2].drop 0).take (Try.prog.cellsOf 3))
      rw [cells_int]; rfl
    have h1 : DataW.trod enc Try.prog w base spare held m 9 [c1] = xs[1]? := by
      have h := hf 1 _ rfl
      refine Eq.trans ?_ h
      show _ = DataW.trod enc Try.prog w base spare held m 9 (([c0, c1, c2].drop 1).take (Try.prog.cellsOf 9))
      rw [hc2]; rfl
    have h2 : DataW.trod enc Try.prog w base spare held m 30 [c2] = xs[2]? := by
      have h := hf 2 _ rfl
      refine Eq.trans ?_ h
      show _ = DataW.trod enc Try.prog w base spare held m 30 (([c0, c1, c2].drop 2).take (Try.prog.cellsOf 30))
      rw [hc3]; rfl
    have hx3 : xs.length = 3 := by rw [hxl]; rfl
    match xs, hx3 with
    | [x0, x1, x2], _ =>
      simp only [List.getElem?_cons_zero, List.getElem?_cons_succ] at h0 h1 h2
      have hw : ∀ k, k ∈ x1.1.weights Try.prog 9 ∨ k ∈ x2.1.weights Try.prog 30 → k ≤ reachBytes := by
        intro k hk
        refine hs k ?_
        rw [hx]
        simp only [DataW.weights, Try.underlying63, List.map_cons, List.map_nil]
        have e1 : k ∈ DataW.weightsEach Try.prog [3, 9, 30] [x0.1, x1.1, x2.1] := by
          simp only [DataW.weightsEach, List.mem_append, List.not_mem_nil, or_false]
          exact .inr hk
        exact e1
      obtain ⟨a, ea, _⟩ := DataW.trod_int Try.underlying3 h0
      obtain ⟨s, es, exs, _⟩ := DataW.trod_string Try.underlying9 h1
      obtain ⟨A, zs, cc, ec, hI, hzl, _⟩ := ints_read h2 (fun k hk => hw k (.inr hk))
      have hss : s.size ≤ 140737488351232 := by
        have := hw s.size (.inl (by rw [exs]; simp [DataW.weights]))
        unfold reachBytes at this; exact this
      refine ⟨⟨a, s, zs, A, cc⟩, ?_, hI, hzl, hss⟩
      simp at ea es ec
      rw [ea, es, ec]; rfl
set_option maxRecDepth 100000 in
theorem open_ops {W : World} {r : Reach} {b0 : Nat} {v : Value} {d : DataW H} {p : List MemPlace} (hv : Value.okWide Try.prog W r b0 22 v) (h : DataW.Trod enc Try.prog W base spare held 22 v d p) (hs : ∀ k ∈ d.weights Try.prog 22, k ≤ reachBytes) :
    ∃ (A : Option Addr) (c : Nat) (ops : List OpV), v = .slice A ops.length c ∧ OpsAt W A ops ∧ OpsLen ops ∧ ops.length ≤ c := by
  obtain ⟨a0, len0, cap0, rfl⟩ := okWide_slice Try.underlying22 hv
  obtain ⟨fuel, hf⟩ := h
  rcases open_slice Try.underlying22 hf with ⟨hcs, _⟩ | ⟨a, len, cap, m, n, D, Pl, hcs, _, hl, hm, hmm, hx, hi⟩
  · simp [Value.cells] at hcs
    obtain ⟨rfl, rfl, rfl⟩ := hcs
    exact ⟨none, 0, [], rfl, fun h => absurd rfl h, ⟨by simp, by simp⟩, by simp⟩
  · simp [Value.cells] at hcs
    obtain ⟨rfl, rfl, rfl⟩ := hcs
    have hlm : len0 ≤ m := by rw [hmm]; split <;> omega
    have h3 : Try.prog.cellsOf 63 = 3 := by kernel_rfl
    have hd : d = .slice ((List.range len0).map D) ((List.range (m - len0)).map fun j => D (len0 + j)) := by injection hx
    have hsz : (len0 + (m - len0)) * 48 ≤ reachBytes := by
      refine hs _ ?_
      rw [hd]
      simp [DataW.weights, Try.underlying22, bytes_op]
    have hall : ∀ (l : List (DataW H)) (e : DataW H) (k : Nat), e ∈ l → k ∈ e.weights Try.prog 63 → k ∈ DataW.weightsAll Try.prog 63 l := by
      intro l
      induction l with
      | nil => intro e k he; simp at he
      | cons y l ih =>
        intro e k he hk
        simp only [DataW.weightsAll, List.mem_append]
        rcases List.mem_cons.1 he with rfl | he
        · exact .inl hk
        · exact .inr (ih e k he hk)
    have hone : ∀ i, i < len0 → ∃ o : OpV, (Ints W o.ad o.args ∧ o.args.length ≤ 140737488351232 ∧ o.name.size ≤ 140737488351232) ∧ ∀ j u, (opCell o)[j]? = some u → W.cell? (a.add (i * 3 + j)) = some u := by
      intro i hi'
      obtain ⟨cs', hc, ht⟩ := hi i (by omega)
      rw [h3] at hc
      obtain ⟨o, rfl, h4⟩ := op_read ht (fun k hk => hs k (by
        rw [hd]
        have hu : Try.prog.underlying 22 = some (.slice 63) := Try.underlying22
        simp only [DataW.weights, hu, List.mem_cons, List.mem_append]
        exact .inr (.inl (hall _ (D i) k (List.mem_map.2 ⟨i, by simpa using hi', rfl⟩) hk))))
      obtain ⟨_, _, hat⟩ := World.cells?_some hc
      refine ⟨o, h4, fun j u hu => ?_⟩
      have hj : j < 3 := by
        have := (List.getElem?_eq_some_iff.1 hu).1
        simpa [opCell] using this
      have := hat j hj
      rw [Go.Deep.add_add] at this
      rw [this]; exact hu
    have hlist : ∀ k, k ≤ len0 → ∃ ops : List OpV, ops.length = k ∧ (∀ o ∈ ops, Ints W o.ad o.args ∧ o.args.length ≤ 140737488351232 ∧ o.name.size ≤ 140737488351232) ∧ ∀ i (hi : i < ops.length) j u, (opCell ops[i])[j]? = some u → W.cell? (a.add (i * 3 + j)) = some u := by
      intro k
      induction k with
      | zero => intro _; exact ⟨[], rfl, by simp, by simp⟩
      | succ k ih =>
        intro hk
        obtain ⟨ops, hol, hm1, hc⟩ := ih (by omega)
        obtain ⟨o, hom, ho⟩ := hone k (by omega)
        refine ⟨ops ++ [o], by simp [hol], ?_, fun i hi j u hu => ?_⟩
        · intro y hy
          rcases List.mem_append.1 hy with h | h
          · exact hm1 y h
          · simp at h; subst h; exact hom
        · by_cases hj : i < ops.length
          · rw [List.getElem_append_left hj] at hu; exact hc i hj j u hu
          · have he : i = ops.length := by simp at hi; omega
            subst he
            simp at hu
            rw [hol]; exact ho j u hu
    obtain ⟨ops, hol, hm1, hc⟩ := hlist len0 (Nat.le_refl _)
    subst hol
    refine ⟨some a, cap0, ops, rfl, fun hne => ?_, ⟨by unfold reachBytes at hsz; omega, fun o ho => (hm1 o ho).2⟩, by omega⟩
    obtain ⟨b, off, sp⟩ := a
    have hpos := List.length_pos_iff.2 hne
    have h0 := hc 0 hpos 0 _ rfl
    have hsp : sp = none := by simpa [Addr.add] using World.cell?_spot h0
    subst hsp
    refine ⟨b, off, rfl, ?_, fun k hk => ?_⟩
    · have := World.block_lt_of_cell? W _ h0
      rwa [addr_add'] at this
    · have e0 := hc k hk 0 _ rfl
      have e1 := hc k hk 1 _ rfl
      have e2 := hc k hk 2 _ rfl
      rw [addr_add'] at e0 e1 e2
      exact ⟨e0, e1, e2, (hm1 _ (List.getElem_mem hk)).1⟩
set_option maxRecDepth 100000 in
theorem open_ints {W : World} {r : Reach} {b0 : Nat} {v : Value} {d : DataW H} {p : List MemPlace} (hv : Value.okWide Try.prog W r b0 30 v) (h : DataW.Trod enc Try.prog W base spare held 30 v d p) (hs : ∀ k ∈ d.weights Try.prog 30, k ≤ reachBytes) :
    ∃ (A : Option Addr) (c : Nat) (xs : List Int), v = .slice A xs.length c ∧ Ints W A xs ∧ xs.length ≤ 140737488351232 := by
  obtain ⟨a0, len0, cap0, rfl⟩ := okWide_slice Try.underlying30 hv
  obtain ⟨fuel, hf⟩ := h
  obtain ⟨A, xs, c, e, h1, h2, _⟩ := ints_read hf hs
  simp [Value.cells] at e
  obtain ⟨rfl, rfl, rfl⟩ := e
  exact ⟨_, _, xs, rfl, h1, h2⟩
theorem sized_all {ts : List TypeId} {ds : List (DataW H)} (h : (DataW.weightsEach Try.prog ts ds).all (· ≤ reachBytes) = true) {j : Nat} {t : TypeId} {d : DataW H} (ht : ts[j]? = some t) (hd : ds[j]? = some d) : ∀ k ∈ d.weights Try.prog t, k ≤ reachBytes := fun k hk => by
  have := List.all_eq_true.1 h _ (DataW.weights_mem_each ht hd k hk)
  simpa using this
end
end Go.Proofs.Ytafpbdmggnfdnaa
