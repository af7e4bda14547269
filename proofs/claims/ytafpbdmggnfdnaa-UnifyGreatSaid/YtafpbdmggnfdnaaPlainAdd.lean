/- Plain: an empty store; a node more. -/
import Derived.Test.YtafpbdmggnfdnaaStoreUnify
import Derived.Test.YtafpbdmggnfdnaaPlainTree
namespace Go.Proofs.Ytafpbdmggnfdnaa
set_option linter.unusedVariables false

/-- A node more: a class of its own. -/
def addC (n : Nat) (c : Nat → Nat) : Nat → Nat := fun i => if i = n then n else c i
theorem addC_old {n : Nat} {c : Nat → Nat} {i : Nat} (h : i < n) : addC n c i = c i := by unfold addC; rw [if_neg (by omega)]
theorem addC_new {n : Nat} {c : Nat → Nat} : addC n c n = n := by unfold addC; rw [if_pos rfl]
theorem snoc_at {N : List Nd} {p q : Nd} {i : Nat} (h : (N ++ [p])[i]? = some q) : (i < N.length ∧ N[i]? = some q) ∨ (i = N.length ∧ q = p) := by
  by_cases hi : i < N.length
  · rw [List.getElem?_append_left hi] at h; exact .inl ⟨hi, h⟩
  · rw [List.getElem?_append_right (by omega)] at h
    by_cases e : i = N.length
    · subst e; simp at h; exact .inr ⟨rfl, h.symm⟩
    · rw [List.getElem?_eq_none (by simp; omega)] at h; cases h
theorem Wf.add {N : List Nd} (h : Wf N) (p : Nd) (ha : ∀ a ∈ p.args, a < N.length) (hk : p.kind = 1 → p.args = []) : Wf (N ++ [p]) := by
  intro i q hq
  rcases snoc_at hq with ⟨_, h1⟩ | ⟨rfl, rfl⟩
  · exact h i q h1
  · exact ⟨ha, hk⟩
theorem Closed.add {N : List Nd} {c : Nat → Nat} (h : Closed N c) (hw : Wf N) (hc : ∀ i, i < N.length → c i < N.length) (p : Nd) (ha : ∀ a ∈ p.args, a < N.length) : Closed (N ++ [p]) (addC N.length c) := by
  have harg : ∀ {i : Nat} {q : Nd}, (N ++ [p])[i]? = some q → ∀ a ∈ q.args, a < N.length := by
    intro i q hq a hx
    rcases snoc_at hq with ⟨h0, h1⟩ | ⟨rfl, rfl⟩
    · have := (hw i q h1).1 a hx; omega
    · exact ha a hx
  intro i j P Q hi hj hij hP hQ
  rcases snoc_at hi with ⟨i0, i1⟩ | ⟨rfl, rfl⟩ <;> rcases snoc_at hj with ⟨j0, j1⟩ | ⟨rfl, rfl⟩
  · rw [addC_old i0, addC_old j0] at hij
    obtain ⟨h1, h2⟩ := h i j P Q i1 j1 hij hP hQ
    refine ⟨h1, fun k a b hka hkb => ?_⟩
    rw [addC_old (harg hi a (List.mem_of_getElem? hka)), addC_old (harg hj b (List.mem_of_getElem? hkb))]
    exact h2 k a b hka hkb
  · rw [addC_old i0, addC_new] at hij
    have := hc i i0; omega
  · rw [addC_old j0, addC_new] at hij
    have := hc j j0; omega
  · refine ⟨⟨rfl, rfl, rfl⟩, fun k a b hka hkb => ?_⟩
    rw [hka] at hkb; injection hkb with e; rw [e]
theorem Acyc.add {N : List Nd} {c : Nat → Nat} (h : Acyc N c) (hw : Wf N) (hc : ∀ i, i < N.length → c i < N.length) (p : Nd) (ha : ∀ a ∈ p.args, a < N.length) : Acyc (N ++ [p]) (addC N.length c) := by
  obtain ⟨g, g1, g2⟩ := h
  obtain ⟨M, hM⟩ : ∃ M, ∀ i, i < N.length → g i < M := by
    generalize N.length = n
    induction n with
    | zero => exact ⟨0, by intro i hi; omega⟩
    | succ n ih =>
      obtain ⟨M, hM⟩ := ih
      refine ⟨max M (g n + 1), fun i hi => ?_⟩
      by_cases e : i = n
      · subst e; omega
      · have := hM i (by omega); omega
  refine ⟨fun i => if i = N.length then M else g i, fun i j hi hj hij => ?_, fun i q hq a hx => ?_⟩
  · simp only [List.length_append, List.length_singleton] at hi hj
    by_cases ei : i = N.length <;> by_cases ej : j = N.length
    · subst ei; subst ej; rfl
    · subst ei; rw [addC_new, addC_old (by omega)] at hij
      have := hc j (by omega); omega
    · subst ej; rw [addC_new, addC_old (by omega)] at hij
      have := hc i (by omega); omega
    · rw [addC_old (by omega), addC_old (by omega)] at hij
      simp only [if_neg ei, if_neg ej]
      exact g1 i j (by omega) (by omega) hij
  · rcases snoc_at hq with ⟨h0, h1⟩ | ⟨rfl, rfl⟩
    · have h2 := (hw i q h1).1 a hx
      simp only [if_neg (show ¬ i = N.length by omega), if_neg (show ¬ a = N.length by omega)]
      exact g2 i q h1 a hx
    · have h2 := ha a hx
      simp only [if_neg (show ¬ a = N.length by omega), if_true]
      exact hM a h2
theorem Form.add {N : List Nd} {c : Nat → Nat} {x f : Nat} (h : Form N c x f) (hx : x < N.length) (p : Nd) : Form (N ++ [p]) (addC N.length c) x f := by
  refine ⟨by have := h.lt; simp; omega, by rw [addC_old h.lt]; exact h.cls, fun j P Q hj hjx hP hQ => ?_⟩
  rw [List.getElem?_append_left h.lt] at hQ
  rcases snoc_at hj with ⟨h0, h1⟩ | ⟨rfl, rfl⟩
  · rw [addC_old h0] at hjx
    exact h.head j P Q h1 hjx hP hQ
  · rw [addC_new] at hjx; omega
theorem Form.new (N : List Nd) (c : Nat → Nat) (hc : ∀ i, i < N.length → c i < N.length) (p : Nd) : Form (N ++ [p]) (addC N.length c) N.length N.length := by
  refine ⟨by simp, addC_new, fun j P Q hj hjx hP hQ => ?_⟩
  rcases snoc_at hj with ⟨h0, h1⟩ | ⟨rfl, rfl⟩
  · rw [addC_old h0] at hjx
    have := hc j h0; omega
  · rw [hj] at hQ; injection hQ with e; rw [← e]; exact hP
theorem Forest.add {n : Nat} {l : List Nat} {c d : Nat → Nat} (h : Forest n (par l) c d) (hl : l.length = n) : Forest (n + 1) (par (l ++ [n])) (addC n c) (fun i => if i = n then 0 else d i) := by
  have hp : ∀ i, i < n → par (l ++ [n]) i = par l i := fun i hi => by rw [par_append, if_neg (by omega)]
  have hn : par (l ++ [n]) n = n := by rw [par_append, if_pos hl.symm]
  refine ⟨fun i hi => ?_, fun i hi => ?_, fun i hi hpi => ?_, fun i hi hpi => ?_⟩
  · by_cases e : i = n
    · subst e; rw [hn]; omega
    · rw [hp i (by omega)]; have := h.lt i (by omega); omega
  · by_cases e : i = n
    · subst e; rw [hn]
    · have := h.lt i (by omega)
      rw [hp i (by omega), addC_old this, addC_old (by omega)]; exact h.same i (by omega)
  · by_cases e : i = n
    · subst e; exact addC_new
    · rw [hp i (by omega)] at hpi
      rw [addC_old (by omega)]; exact h.root i (by omega) hpi
  · by_cases e : i = n
    · subst e; exact absurd hn hpi
    · have h1 := h.lt i (by omega)
      rw [hp i (by omega)] at hpi ⊢
      simp only [if_neg e, if_neg (show ¬ par l i = n by omega)]
      exact h.fall i (by omega) hpi
theorem Ok.new : Ok ⟨[], [], [], []⟩ (fun i => i) (fun _ => 0) := by
  refine ⟨⟨rfl, rfl, rfl, fun i p h => by simp at h, ⟨fun i h => ?_, fun i h => ?_, fun i h => ?_, fun i h => ?_⟩, fun x h => ?_, fun i h => ?_⟩, fun i j p q h => by simp at h, ⟨fun i => i, fun i j h => ?_, fun i p h => by simp at h⟩⟩ <;> (simp at h)
theorem Ok.add {S : PS} {c d : Nat → Nat} (h : Ok S c d) (p : Nd) (ha : ∀ a ∈ p.args, a < S.nodes.length) (hk : p.kind = 1 → p.args = []) : Ok (S.add p) (addC S.nodes.length c) (fun i => if i = S.nodes.length then 0 else d i) := by
  have hlen : (S.add p).nodes.length = S.nodes.length + 1 := by simp [PS.add]
  have hc : ∀ i, i < S.nodes.length → c i < S.nodes.length := fun i hi => (h.inv.root i hi).1
  have hpa : ∀ i, i < S.nodes.length → par (S.above ++ [S.nodes.length]) i = par S.above i := fun i hi => by rw [par_append, if_neg (by have := h.inv.la; omega)]
  have hpn : par (S.above ++ [S.nodes.length]) S.nodes.length = S.nodes.length := by rw [par_append, if_pos h.inv.la.symm]
  refine ⟨⟨?_, ?_, ?_, h.inv.wf.add p ha hk, ?_, fun x hx hcx => ?_, fun i hi => ?_⟩, h.closed.add h.inv.wf hc p ha, h.acyc.add h.inv.wf hc p ha⟩
  · simp [PS.add, h.inv.la]
  · simp [PS.add, h.inv.lr]
  · simp [PS.add, h.inv.lf]
  · rw [hlen]; exact h.inv.forest.add h.inv.la
  · rw [hlen] at hx
    simp only [PS.add]
    by_cases e : x = S.nodes.length
    · subst e
      rw [par_append, if_pos h.inv.lf.symm]
      exact Form.new _ _ hc p
    · rw [addC_old (by omega)] at hcx
      rw [par_append, if_neg (by have := h.inv.lf; omega)]
      exact (h.inv.forms x (by omega) hcx).add (by omega) p
  · rw [hlen] at hi ⊢
    simp only [PS.add]
    have hnr : nroots (par (S.above ++ [S.nodes.length])) (S.nodes.length + 1) = nroots (par S.above) S.nodes.length + 1 := by
      rw [nroots, if_pos hpn, nroots_congr _ _ _ hpa]
    rw [hnr]
    by_cases e : i = S.nodes.length
    · subst e
      have h0 : par (S.ranks ++ [0]) S.nodes.length = 0 := by rw [par_append, if_pos h.inv.lr.symm]
      rw [h0]
      have := nroots_le (par S.above) S.nodes.length; omega
    · rw [par_append, if_neg (by have := h.inv.lr; omega)]
      have := h.inv.ranks i (by omega); omega
end Go.Proofs.Ytafpbdmggnfdnaa
