/- A function in whose loop a range over a function stands: each such range leaves a mark; at the end all are taken. -/
import Derived.Test.YtafpbdmggnfdnaaSeq
namespace Go.Proofs.Ytafpbdmggnfdnaa
open Go.RowKit Go.Shelf
set_option linter.unusedVariables false

def marks (Ds : List Nat) : List Deferred := Ds.map fun D => { target := .collected D, args := #[] }
/-- The marks' blocks: each holds no call; they are apart. -/
structure Marked (Ds : List Nat) (W : World) : Prop where
  nodup : Ds.Nodup
  at_ : ∀ D ∈ Ds, W.heap[D]? = some (.deferred (some []))
theorem Marked.keep {Ds : List Nat} {W W' : World} (h : Marked Ds W) (hk : ∀ D ∈ Ds, W'.heap[D]? = W.heap[D]?) : Marked Ds W' := ⟨h.nodup, fun D hD => (hk D hD).trans (h.at_ D hD)⟩
theorem Marked.lt {Ds : List Nat} {W : World} (h : Marked Ds W) (D : Nat) (hD : D ∈ Ds) : D < W.heap.size := (Array.getElem?_eq_some_iff.1 (h.at_ D hD)).1
theorem Marked.cons {Ds : List Nat} {W : World} {D : Nat} (h : Marked Ds W) (hD : W.heap[D]? = some (.deferred (some []))) (hn : D ∉ Ds) : Marked (D :: Ds) W :=
  ⟨List.nodup_cons.2 ⟨hn, h.nodup⟩, fun E hE => by
    rcases List.mem_cons.1 hE with rfl | hE
    · exact hD
    · exact h.at_ E hE⟩
theorem leaves_marks {P : Program} {n : Nat} {fn : Func} {tmps : Array Value} {R : Ending → World → Prop} (hres : fn.results = #[]) (Ds : List Nat) : ∀ (W : World), Marked Ds W → (∀ W', Only (fun b => b ∈ Ds) W W' → ∀ v, R (.returned v) W') → LeavesInM Fence.wide n P fn tmps R (marks Ds) .returning W := by
  induction Ds with
  | nil =>
    intro W _ hR
    exact ⟨_, results_none hres _ _ _, hR W (Only.refl _ _) _⟩
  | cons D Ds ih =>
    intro W hm hR
    have hnd := List.nodup_cons.1 hm.nodup
    refine ⟨by simp, .inl ⟨D, _, rfl, run_takeDeferred (hm.at_ D List.mem_cons_self), ih _ ⟨hnd.2, fun E hE => ?_⟩ (fun W' ho v => hR W' ?_ v)⟩⟩
    · exact ((only_put (l := D) _).block E (hm.lt E (List.mem_cons_of_mem _ hE)) (by rintro rfl; exact hnd.1 hE)).trans (hm.at_ E (List.mem_cons_of_mem _ hE))
    · exact ((only_put (l := D) _).mono fun b _ e => by rw [e]; exact List.mem_cons_self).then_ ho (fun b hb _ => List.mem_cons_of_mem _ hb)
end Go.Proofs.Ytafpbdmggnfdnaa
