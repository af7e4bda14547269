/- Plain: the steps of merge. -/
import Derived.Test.YtafpbdmggnfdnaaPlainStore
namespace Go.Proofs.Ytafpbdmggnfdnaa
open Go.RowKit
set_option linter.unusedVariables false

theorem Forest.unique {n : Nat} {par c d c' d' : Nat → Nat} (h : Forest n par c d) (h' : Forest n par c' d') (i : Nat) (hi : i < n) : c i = c' i := by
  obtain ⟨k, hk⟩ : ∃ k, d i = k := ⟨_, rfl⟩
  induction k using Nat.strongRecOn generalizing i with
  | ind k ih =>
    by_cases hp : par i = i
    · rw [h.root i hi hp, h'.root i hi hp]
    · have := ih (d (par i)) (by rw [← hk]; exact h.fall i hi hp) (par i) (h.lt i hi) rfl
      rwa [h.same i hi, h'.same i hi] at this
theorem MInv.congr {N : List Nd} {c0 c c' : Nat → Nat} {a b : Nat} {todo : List (Nat × Nat)} (hw : Wf N) (h : MInv N c0 a b c todo) (h1 : Resp N.length c c') (h2 : Resp N.length c' c) : MInv N c0 a b c' todo := by
  have hf : ∀ f, Resp N.length c' f → Resp N.length c f := fun f hf i j hi hj e => hf i j hi hj (h1 i j hi hj e)
  refine ⟨fun e he => ⟨fun i j hi hj hij => (h.up e he).1 i j hi hj (h2 i j hi hj hij), (h.up e he).2⟩, fun i j p q hi hj hij hp hq => ?_, fun i j hi hj hij => h1 i j hi hj (h.base i j hi hj hij), fun f f1 f2 => h.ab f (hf f f1) f2, h.lt, fun D hD ha hb => ?_⟩
  · have hil := (List.getElem?_eq_some_iff.1 hi).1
    have hjl := (List.getElem?_eq_some_iff.1 hj).1
    obtain ⟨n1, n2⟩ := h.near i j p q hi hj (h2 i j hil hjl hij) hp hq
    exact ⟨n1, fun k x y hx hy f f1 f2 => n2 k x y hx hy f (hf f f1) f2⟩
  · obtain ⟨r1, r2⟩ := h.reach D ⟨fun i j hi hj hij => hD.1 i j hi hj (h1 i j hi hj hij), hD.2⟩ ha hb
    exact ⟨r1, fun i j hi hj hn hij => r2 i j hi hj hn (h2 i j hi hj hij)⟩
theorem join_comm (n : Nat) (c : Nat → Nat) (x y : Nat) : Resp n (join c x y) (join c y x) := by
  intro i j _ _ h
  rcases join_cases h with e | ⟨e1, e2⟩ | ⟨e1, e2⟩
  · exact join_same e
  · exact (join_xy e2 e1).symm
  · exact join_xy e1 e2

/-- What is told of a failure. -/
def Fails (free : Bool) (N : List Nd) (c0 : Nat → Nat) (a b : Nat) : Prop := if free = true then ∀ e, ¬ Good N c0 a b e else ¬ AlikeIn N c0 a b
theorem Fails.of_none {free : Bool} {N : List Nd} {c0 : Nat → Nat} {a b : Nat} (h : ∀ e, ¬ Good N c0 a b e) : Fails free N c0 a b := by
  unfold Fails; split
  · exact h
  · rintro ⟨e, he, _⟩; exact h e he
/-- A class whose form is a variable is one of variables. -/
theorem Form.vars {N : List Nd} {c : Nat → Nat} {x f : Nat} {p : Nd} (h : Form N c x f) (hp : N[f]? = some p) (hk : p.kind = 1) (j : Nat) (q : Nd) (hj : N[j]? = some q) (cj : c j = x) : q.kind = 1 := by
  rcases Decidable.em (q.kind = 1) with e | e
  · exact e
  · exact absurd hk (h.head j q p hj cj e hp)
theorem MInv.var_fails {N : List Nd} {c0 c : Nat → Nat} {a b p q x y fx fy : Nat} {P Q : Nd} {todo : List (Nat × Nat)} (h : MInv N c0 a b c todo) (hpq : (p, q) ∈ todo) (cp : c p = x) (cq : c q = y) (hne : x ≠ y)
    (Fx : Form N c x fx) (Fy : Form N c y fy) (hP : N[fx]? = some P) (hQ : N[fy]? = some Q) (hv : P.kind = 1 ∨ Q.kind = 1) : Fails false N c0 a b := by
  unfold Fails
  rw [if_neg (by decide)]
  rintro ⟨e, he, hs⟩
  obtain ⟨u1, u2⟩ := h.up e he
  have hl := h.lt _ hpq
  have hc : c0 p = c0 q := by
    rcases hv with hv | hv
    · refine hs p q hl.1 hl.2 (fun j r hj hjp => ?_) (u2 _ hpq)
      have hjl := (List.getElem?_eq_some_iff.1 hj).1
      exact Fx.vars hP hv j r hj ((h.base j p hjl hl.1 hjp).trans cp)
    · refine (hs q p hl.2 hl.1 (fun j r hj hjp => ?_) (u2 _ hpq).symm).symm
      have hjl := (List.getElem?_eq_some_iff.1 hj).1
      exact Fy.vars hQ hv j r hj ((h.base j q hjl hl.2 hjp).trans cq)
  exact hne (cp.symm.trans ((h.base p q hl.1 hl.2 hc).trans cq))
/-- No variable becomes anything where two others are made one. -/
theorem Still.join {N : List Nd} {c0 c : Nat → Nat} {x y fx fy : Nat} {P Q : Nd} (h : Still N c0 c) (Fx : Form N c x fx) (Fy : Form N c y fy) (hP : N[fx]? = some P) (hQ : N[fy]? = some Q) (kP : P.kind ≠ 1) (kQ : Q.kind ≠ 1) : Still N c0 (join c x y) := by
  have key : ∀ {z f : Nat} {R : Nd}, Form N c z f → N[f]? = some R → R.kind ≠ 1 → ∀ i, i < N.length → c i = z → ¬ VarCls N c0 i := by
    intro z f R F hR kR i hi ci hv
    have hc := h i f hi F.lt hv (ci.trans F.cls.symm)
    exact kR (hv f R hR hc.symm)
  intro i j hi hj hv hij
  rcases join_cases hij with e | ⟨e1, e2⟩ | ⟨e1, e2⟩
  · exact h i j hi hj hv e
  · exact absurd hv (key Fx hP kP i hi e1)
  · exact absurd hv (key Fy hQ kQ i hi e1)
theorem Still.congr {N : List Nd} {c0 c c' : Nat → Nat} (h : Still N c0 c) (h2 : Resp N.length c' c) : Still N c0 c' := fun i j hi hj hv hij => h i j hi hj hv (h2 i j hi hj hij)

theorem mem_zip_at {p q : List Nat} {t : Nat × Nat} (h : t ∈ p.zip q) : ∃ (k u v : Nat), p[k]? = some u ∧ q[k]? = some v ∧ t = (u, v) := by
  obtain ⟨k, hk0, rfl⟩ := List.mem_iff_getElem.1 h
  have hk := hk0
  rw [List.length_zip, Nat.lt_min] at hk
  exact ⟨k, p[k]'hk.1, q[k]'hk.2, List.getElem?_eq_getElem hk.1, List.getElem?_eq_getElem hk.2, by simp⟩
theorem zip_mem_at {p q : List Nat} {k u v : Nat} (hu : p[k]? = some u) (hv : q[k]? = some v) : (u, v) ∈ p.zip q := by
  have : (p.zip q)[k]? = some (u, v) := by rw [List.getElem?_zip_eq_some]; exact ⟨hu, hv⟩
  exact List.mem_of_getElem? this

/-- What is to be done behind two classes were made one. -/
def newTodo (todo : List (Nat × Nat)) (P Q : Nd) : List (Nat × Nat) := if P.kind = 1 ∨ Q.kind = 1 then todo else todo ++ P.args.zip Q.args
/-- The program puts x under y, or y under x. -/
theorem merge_put {S : PS} {c0 c d : Nat → Nat} {a b p q x y : Nat} {P Q : Nd} {todo : List (Nat × Nat)} (hi : PInv S c d) (h : MInv S.nodes c0 a b c (todo ++ [(p, q)])) (cp : c p = x) (cq : c q = y) (hne : x ≠ y)
    (hP : S.nodes[par S.forms x]? = some P) (hQ : S.nodes[par S.forms y]? = some Q) (hh : P.kind ≠ 1 → Q.kind ≠ 1 → Heads P Q) (free : Bool) (hfree : free = false → P.kind ≠ 1 ∧ Q.kind ≠ 1 ∧ Still S.nodes c0 c)
    (x' y' : Nat) (hxy : (x' = x ∧ y' = y) ∨ (x' = y ∧ y' = x)) (R : Nd) (hR : S.nodes[par S.forms y']? = some R) :
    ∃ c' d', PInv (S.put x' y' (decide (R.kind = 1))) c' d' ∧ MInv S.nodes c0 a b c' (newTodo todo P Q) ∧ (free = false → Still S.nodes c0 c') ∧ (S.put x' y' (decide (R.kind = 1))).undo (x', y', par S.forms y', par S.ranks y') = S ∧
      nroots (par (S.put x' y' (decide (R.kind = 1))).above) S.nodes.length + 1 = nroots (par S.above) S.nodes.length := by
  have hm : (p, q) ∈ todo ++ [(p, q)] := by simp
  have hl := h.lt _ hm
  have rx := hi.root p hl.1
  have ry := hi.root q hl.2
  rw [cp] at rx; rw [cq] at ry
  have Fx := hi.forms x rx.1 rx.2.2
  have Fy := hi.forms y ry.1 ry.2.2
  have hx' : x' < S.nodes.length ∧ c x' = x' := by rcases hxy with ⟨rfl, _⟩ | ⟨rfl, _⟩; exact ⟨rx.1, rx.2.2⟩; exact ⟨ry.1, ry.2.2⟩
  have hy' : y' < S.nodes.length ∧ c y' = y' := by rcases hxy with ⟨_, rfl⟩ | ⟨_, rfl⟩; exact ⟨ry.1, ry.2.2⟩; exact ⟨rx.1, rx.2.2⟩
  have hne' : x' ≠ y' := by rcases hxy with ⟨rfl, rfl⟩ | ⟨rfl, rfl⟩; exact hne; exact hne.symm
  have hJ : MInv S.nodes c0 a b (join c x y) (newTodo todo P Q) := by
    refine MInv.join hi.wf h (fun t ht => ?_) (fun t ht => ?_) hm cp cq Fx Fy hP hQ (fun k1 k2 => ⟨hh k1 k2, fun k u v hu hv => ?_⟩)
    · unfold newTodo
      rcases List.mem_append.1 ht with ht | ht
      · split
        · exact .inr ht
        · exact .inr (List.mem_append_left _ ht)
      · simp at ht; exact .inl ht
    · unfold newTodo at ht
      split at ht
      · exact .inl (List.mem_append_left _ ht)
      · rename_i hk
        rcases List.mem_append.1 ht with ht | ht
        · exact .inl (List.mem_append_left _ ht)
        · refine .inr ⟨fun e => hk (.inl e), fun e => hk (.inr e), mem_zip_at ht⟩
    · unfold newTodo
      rw [if_neg (by rintro (e | e); exact k1 e; exact k2 e)]
      exact List.mem_append_right _ (zip_mem_at hu hv)
  have hS : free = false → Still S.nodes c0 (join c x y) := fun hf => by
    obtain ⟨k1, k2, hs⟩ := hfree hf
    exact hs.join Fx Fy hP hQ k1 k2
  refine ⟨join c x' y', _, hi.put x' y' hx'.1 hy'.1 hx'.2 hy'.2 hne' R hR, ?_, ?_, put_undo S x' y' _ (hi.rootOf x' hx'.1 hx'.2), hi.put_roots x' y' _ hx'.1 hx'.2 hne'⟩
  · rcases hxy with ⟨rfl, rfl⟩ | ⟨rfl, rfl⟩
    · exact hJ
    · exact hJ.congr hi.wf (join_comm _ c _ _) (join_comm _ c _ _)
  · intro hf
    rcases hxy with ⟨rfl, rfl⟩ | ⟨rfl, rfl⟩
    · exact hS hf
    · exact (hS hf).congr (join_comm _ c _ _)
end Go.Proofs.Ytafpbdmggnfdnaa
