/- Part 4 of the proof of UnifyCopies: what follows was kept as these texts: PlainStore, PlainMerge, StoreMerge, StoreBack, Round. -/
import Derived.Test.YtafpbdmggnfdnaaUnifyCopiesPt1
import Derived.Test.YtafpbdmggnfdnaaUnifyCopiesPt2
import Derived.Test.YtafpbdmggnfdnaaUnifyCopiesPt3
import Derived.Deep.LoopGhost
import Derived.RangeFuncNested
import Derived.RangeFuncBound
import Derived.RangeFuncCalls
import Derived.RangeFuncLeaves
import Derived.Shelf.Abstract
import Derived.Shelf.RegionOpen
import Derived.OwnWalkIn
import Derived.TacticsInMore
import Derived.LoopNIn
import Derived.LoopIn
import Derived.StillTailTactics
import Derived.OrdersIn
import Derived.TacticsIn
/- Plain: what holds of the program's store; what put and undo do to it. -/
namespace Go.Proofs.Ytafpbdmggnfdnaa
set_option linter.unusedVariables false

/-- How many of the first n are roots. -/
def nroots (p : Nat → Nat) : Nat → Nat
  | 0 => 0
  | n + 1 => nroots p n + if p n = n then 1 else 0
theorem nroots_le (p : Nat → Nat) (n : Nat) : nroots p n ≤ n := by
  induction n with
  | zero => simp [nroots]
  | succ n ih => unfold nroots; split <;> omega
theorem nroots_congr (p q : Nat → Nat) (n : Nat) (h : ∀ i, i < n → p i = q i) : nroots p n = nroots q n := by
  induction n with
  | zero => rfl
  | succ n ih => unfold nroots; rw [ih (fun i hi => h i (by omega)), h n (by omega)]
theorem nroots_link (p : Nat → Nat) (x y n : Nat) (hx : x < n) (px : p x = x) (hne : x ≠ y) : nroots (fun i => if i = x then y else p i) n + 1 = nroots p n := by
  induction n with
  | zero => omega
  | succ n ih =>
    unfold nroots
    by_cases e : n = x
    · subst e
      rw [if_pos rfl, if_neg (fun h => hne h.symm), if_pos px, nroots_congr _ p n (fun i hi => by rw [if_neg (by omega)])]
    · rw [if_neg e]
      have := ih (by omega)
      omega

theorem par_set (l : List Nat) (i v j : Nat) (hi : i < l.length) : par (l.set i v) j = if j = i then v else par l j := by
  unfold par
  rw [List.getElem?_set]
  by_cases e : i = j
  · subst e; simp [hi]
  · rw [if_neg e, if_neg (fun h => e h.symm)]
theorem par_append (l : List Nat) (v j : Nat) : par (l ++ [v]) j = if j = l.length then v else par l j := by
  unfold par
  by_cases h : j < l.length
  · rw [List.getElem?_append_left h, if_neg (by omega)]
  · rw [List.getElem?_append_right (by omega)]
    by_cases e : j = l.length
    · subst e; simp
    · rw [if_neg e, List.getElem?_eq_none (by simp; omega), List.getElem?_eq_none (by omega)]

structure PInv (S : PS) (c d : Nat → Nat) : Prop where
  la : S.above.length = S.nodes.length
  lr : S.ranks.length = S.nodes.length
  lf : S.forms.length = S.nodes.length
  wf : Wf S.nodes
  forest : Forest S.nodes.length (par S.above) c d
  forms : ∀ x, x < S.nodes.length → c x = x → Form S.nodes c x (par S.forms x)
  ranks : ∀ i, i < S.nodes.length → par S.ranks i + nroots (par S.above) S.nodes.length ≤ S.nodes.length

theorem PInv.root {S : PS} {c d : Nat → Nat} (h : PInv S c d) (i : Nat) (hi : i < S.nodes.length) : c i < S.nodes.length ∧ par S.above (c i) = c i ∧ c (c i) = c i := h.forest.top i hi
theorem PInv.rootOf {S : PS} {c d : Nat → Nat} (h : PInv S c d) (x : Nat) (hx : x < S.nodes.length) (e : c x = x) : par S.above x = x := by
  have := (h.root x hx).2.1; rwa [e] at this
theorem PInv.rank_le {S : PS} {c d : Nat → Nat} (h : PInv S c d) (i : Nat) : par S.ranks i ≤ S.nodes.length := by
  by_cases hi : i < S.nodes.length
  · have := h.ranks i hi; omega
  · unfold par; rw [List.getElem?_eq_none (by have := h.lr; omega)]; simp

theorem PInv.put {S : PS} {c d : Nat → Nat} (h : PInv S c d) (x y : Nat) (hx : x < S.nodes.length) (hy : y < S.nodes.length) (cx : c x = x) (cy : c y = y) (hne : x ≠ y) (p : Nd) (hp : S.nodes[par S.forms y]? = some p) :
    PInv (S.put x y (decide (p.kind = 1))) (join c x y) (fun i => if c i = x then d i + d y + 1 else d i) := by
  have px := h.rootOf x hx cx
  have py := h.rootOf y hy cy
  have ha : par (S.put x y (decide (p.kind = 1))).above = fun i => if i = x then y else par S.above i := by
    funext i; exact par_set S.above x y i (by rw [h.la]; exact hx)
  have hn : (S.put x y (decide (p.kind = 1))).nodes = S.nodes := rfl
  refine ⟨by simp [PS.put, h.la], by simp only [PS.put]; split <;> simp [h.lr], by simp only [PS.put]; split <;> simp [h.lf], h.wf, ?_, fun z hz hcz => ?_, fun i hi => ?_⟩
  · rw [ha]; exact h.forest.link x y hx hy px py hne
  · rw [hn] at hz
    have hzx : z ≠ x := by
      rintro rfl
      unfold Go.Proofs.Ytafpbdmggnfdnaa.join at hcz
      rw [if_pos cx] at hcz
      exact hne hcz.symm
    have hcz0 : c z = z := by
      unfold Go.Proofs.Ytafpbdmggnfdnaa.join at hcz
      split at hcz
      · rename_i e; subst hcz; exact absurd (cy.symm.trans e).symm hne
      · exact hcz
    have hjoin : ∀ j, join c x y j = z → c j = z ∨ (z = y ∧ c j = x) := by
      intro j hj
      unfold Go.Proofs.Ytafpbdmggnfdnaa.join at hj
      split at hj
      · rename_i e; exact .inr ⟨hj.symm, e⟩
      · exact .inl hj
    by_cases hzy : z = y
    · subst hzy
      by_cases hk : p.kind = 1
      · have hf : par (S.put x z (decide (p.kind = 1))).forms z = par S.forms x := by
          simp only [PS.put, decide_eq_true hk, if_true]
          rw [par_set _ _ _ _ (by rw [h.lf]; exact hz), if_pos rfl]
        rw [hf, hn]
        have Fx := h.forms x hx cx
        have Fz := h.forms z hz cy
        refine ⟨Fx.lt, ?_, fun j q r hj hcj hq hr => ?_⟩
        · unfold Go.Proofs.Ytafpbdmggnfdnaa.join; rw [if_pos Fx.cls]
        · rcases hjoin j hcj with e | ⟨_, e⟩
          · exact absurd hk (Fz.head j q p hj e hq hp)
          · exact Fx.head j q r hj e hq hr
      · have hf : par (S.put x z (decide (p.kind = 1))).forms z = par S.forms z := by
          simp only [PS.put, decide_eq_false hk]; rfl
        rw [hf, hn]
        have Fz := h.forms z hz cy
        refine ⟨Fz.lt, ?_, fun j q r hj hcj hq hr => ?_⟩
        · unfold Go.Proofs.Ytafpbdmggnfdnaa.join; rw [Fz.cls, if_neg (fun e => hne e.symm)]
        · rw [hp] at hr; injection hr with hr; subst hr; exact hk
    · have hf : par (S.put x y (decide (p.kind = 1))).forms z = par S.forms z := by
        simp only [PS.put]
        split
        · rw [par_set _ _ _ _ (by rw [h.lf]; exact hy), if_neg hzy]
        · rfl
      rw [hf, hn]
      have Fz := h.forms z hz hcz0
      refine ⟨Fz.lt, ?_, fun j q r hj hcj hq hr => ?_⟩
      · unfold Go.Proofs.Ytafpbdmggnfdnaa.join; rw [Fz.cls, if_neg hzx]
      · rcases hjoin j hcj with e | ⟨e, _⟩
        · exact Fz.head j q r hj e hq hr
        · exact absurd e hzy
  · rw [ha, hn]
    have hl := nroots_link (par S.above) x y S.nodes.length hx px hne
    rw [hn] at hi
    have hri := h.ranks i hi
    have hry := h.ranks y hy
    have hr : par (S.put x y (decide (p.kind = 1))).ranks i ≤ par S.ranks i ∨ par (S.put x y (decide (p.kind = 1))).ranks i ≤ par S.ranks y + 1 := by
      simp only [PS.put]
      split
      · rw [par_set _ _ _ _ (by rw [h.lr]; exact hy)]
        split
        · exact .inr (Nat.le_refl _)
        · exact .inl (Nat.le_refl _)
      · exact .inl (Nat.le_refl _)
    omega
theorem PInv.put_roots {S : PS} {c d : Nat → Nat} (h : PInv S c d) (x y : Nat) (v : Bool) (hx : x < S.nodes.length) (cx : c x = x) (hne : x ≠ y) : nroots (par (S.put x y v).above) S.nodes.length + 1 = nroots (par S.above) S.nodes.length := by
  have ha : par (S.put x y v).above = fun i => if i = x then y else par S.above i := by
    funext i; exact par_set S.above x y i (by rw [h.la]; exact hx)
  rw [ha]; exact nroots_link _ x y _ hx (h.rootOf x hx cx) hne

/-- A step: who was put under whom, the form and the rank that the latter had. -/
abbrev Stp := Nat × Nat × Nat × Nat
def PS.undo (S : PS) (s : Stp) : PS := { S with above := S.above.set s.1 s.1, forms := S.forms.set s.2.1 s.2.2.1, ranks := S.ranks.set s.2.1 s.2.2.2 }
def undoAll (S : PS) (l : List Stp) : PS := l.foldr (fun s S => S.undo s) S
theorem undoAll_snoc (S : PS) (l : List Stp) (s : Stp) : undoAll S (l ++ [s]) = undoAll (S.undo s) l := by simp [undoAll]
theorem set_back (l : List Nat) (i v : Nat) : (l.set i v).set i (par l i) = l := by
  rw [List.set_set]
  by_cases h : i < l.length
  · rw [← par_at h, List.set_getElem_self]
  · rw [List.set_eq_of_length_le (by omega)]
theorem set_same (l : List Nat) (i : Nat) : l.set i (par l i) = l := by
  by_cases h : i < l.length
  · rw [← par_at h, List.set_getElem_self]
  · rw [List.set_eq_of_length_le (by omega)]
theorem put_undo (S : PS) (x y : Nat) (v : Bool) (px : par S.above x = x) : (S.put x y v).undo (x, y, par S.forms y, par S.ranks y) = S := by
  obtain ⟨N, A, R, F⟩ := S
  simp only [PS.put, PS.undo] at px ⊢
  have e1 : (A.set x y).set x x = A := by have := set_back A x y; rwa [px] at this
  congr 1
  · split
    · exact set_back _ _ _
    · exact set_same _ _
  · split
    · exact set_back _ _ _
    · exact set_same _ _
end Go.Proofs.Ytafpbdmggnfdnaa

/- Plain: the steps of merge. -/
namespace Go.Proofs.Ytafpbdmggnfdnaa
open Go.RowKit
set_option linter.unusedVariables false

theorem Forest.unique {n : Nat} {par c d c' d' : Nat → Nat} (h : Forest n par c d) (h' : Forest n par c' d') (i : Nat) (hi : i < n) : c i = c' i := by
  obtain ⟨k, hk⟩ : ∃ k, d i = k := ⟨_, rfl⟩
  induction k using Nat.strongRecOn generalizing i with
  | ind k ih =>
    by_cases hp : par i = i
    · rw [h.root i hi hp, h'.root i hi hp]
    · have := ih (d (par i)) (by rw [← hk]; exact h.fall i hi hp) (par i) (h.lt i hi) rfl
      rwa [h.same i hi, h'.same i hi] at this
theorem MInv.congr {N : List Nd} {c0 c c' : Nat → Nat} {a b : Nat} {todo : List (Nat × Nat)} (hw : Wf N) (h : MInv N c0 a b c todo) (h1 : Resp N.length c c') (h2 : Resp N.length c' c) : MInv N c0 a b c' todo := by
  have hf : ∀ f, Resp N.length c' f → Resp N.length c f := fun f hf i j hi hj e => hf i j hi hj (h1 i j hi hj e)
  refine ⟨fun e he => ⟨fun i j hi hj hij => (h.up e he).1 i j hi hj (h2 i j hi hj hij), (h.up e he).2⟩, fun i j p q hi hj hij hp hq => ?_, fun i j hi hj hij => h1 i j hi hj (h.base i j hi hj hij), fun f f1 f2 => h.ab f (hf f f1) f2, h.lt, fun D hD ha hb => ?_⟩
  · have hil := (List.getElem?_eq_some_iff.1 hi).1
    have hjl := (List.getElem?_eq_some_iff.1 hj).1
    obtain ⟨n1, n2⟩ := h.near i j p q hi hj (h2 i j hil hjl hij) hp hq
    exact ⟨n1, fun k x y hx hy f f1 f2 => n2 k x y hx hy f (hf f f1) f2⟩
  · obtain ⟨r1, r2⟩ := h.reach D ⟨fun i j hi hj hij => hD.1 i j hi hj (h1 i j hi hj hij), hD.2⟩ ha hb
    exact ⟨r1, fun i j hi hj hn hij => r2 i j hi hj hn (h2 i j hi hj hij)⟩
theorem join_comm (n : Nat) (c : Nat → Nat) (x y : Nat) : Resp n (join c x y) (join c y x) := by
  intro i j _ _ h
  rcases join_cases h with e | ⟨e1, e2⟩ | ⟨e1, e2⟩
  · exact join_same e
  · exact (join_xy e2 e1).symm
  · exact join_xy e1 e2

/-- What is told of a failure. -/
def Fails (free : Bool) (N : List Nd) (c0 : Nat → Nat) (a b : Nat) : Prop := if free = true then ∀ e, ¬ Good N c0 a b e else ¬ AlikeIn N c0 a b
theorem Fails.of_none {free : Bool} {N : List Nd} {c0 : Nat → Nat} {a b : Nat} (h : ∀ e, ¬ Good N c0 a b e) : Fails free N c0 a b := by
  unfold Fails; split
  · exact h
  · rintro ⟨e, he, _⟩; exact h e he
/-- A class whose form is a variable is one of variables. -/
theorem Form.vars {N : List Nd} {c : Nat → Nat} {x f : Nat} {p : Nd} (h : Form N c x f) (hp : N[f]? = some p) (hk : p.kind = 1) (j : Nat) (q : Nd) (hj : N[j]? = some q) (cj : c j = x) : q.kind = 1 := by
  rcases Decidable.em (q.kind = 1) with e | e
  · exact e
  · exact absurd hk (h.head j q p hj cj e hp)
theorem MInv.var_fails {N : List Nd} {c0 c : Nat → Nat} {a b p q x y fx fy : Nat} {P Q : Nd} {todo : List (Nat × Nat)} (h : MInv N c0 a b c todo) (hpq : (p, q) ∈ todo) (cp : c p = x) (cq : c q = y) (hne : x ≠ y)
    (Fx : Form N c x fx) (Fy : Form N c y fy) (hP : N[fx]? = some P) (hQ : N[fy]? = some Q) (hv : P.kind = 1 ∨ Q.kind = 1) : Fails false N c0 a b := by
  unfold Fails
  rw [if_neg (by decide)]
  rintro ⟨e, he, hs⟩
  obtain ⟨u1, u2⟩ := h.up e he
  have hl := h.lt _ hpq
  have hc : c0 p = c0 q := by
    rcases hv with hv | hv
    · refine hs p q hl.1 hl.2 (fun j r hj hjp => ?_) (u2 _ hpq)
      have hjl := (List.getElem?_eq_some_iff.1 hj).1
      exact Fx.vars hP hv j r hj ((h.base j p hjl hl.1 hjp).trans cp)
    · refine (hs q p hl.2 hl.1 (fun j r hj hjp => ?_) (u2 _ hpq).symm).symm
      have hjl := (List.getElem?_eq_some_iff.1 hj).1
      exact Fy.vars hQ hv j r hj ((h.base j q hjl hl.2 hjp).trans cq)
  exact hne (cp.symm.trans ((h.base p q hl.1 hl.2 hc).trans cq))
/-- No variable becomes anything where two others are made one. -/
theorem Still.join {N : List Nd} {c0 c : Nat → Nat} {x y fx fy : Nat} {P Q : Nd} (h : Still N c0 c) (Fx : Form N c x fx) (Fy : Form N c y fy) (hP : N[fx]? = some P) (hQ : N[fy]? = some Q) (kP : P.kind ≠ 1) (kQ : Q.kind ≠ 1) : Still N c0 (join c x y) := by
  have key : ∀ {z f : Nat} {R : Nd}, Form N c z f → N[f]? = some R → R.kind ≠ 1 → ∀ i, i < N.length → c i = z → ¬ VarCls N c0 i := by
    intro z f R F hR kR i hi ci hv
    have hc := h i f hi F.lt hv (ci.trans F.cls.symm)
    exact kR (hv f R hR hc.symm)
  intro i j hi hj hv hij
  rcases join_cases hij with e | ⟨e1, e2⟩ | ⟨e1, e2⟩
  · exact h i j hi hj hv e
  · exact absurd hv (key Fx hP kP i hi e1)
  · exact absurd hv (key Fy hQ kQ i hi e1)
theorem Still.congr {N : List Nd} {c0 c c' : Nat → Nat} (h : Still N c0 c) (h2 : Resp N.length c' c) : Still N c0 c' := fun i j hi hj hv hij => h i j hi hj hv (h2 i j hi hj hij)

theorem mem_zip_at {p q : List Nat} {t : Nat × Nat} (h : t ∈ p.zip q) : ∃ (k u v : Nat), p[k]? = some u ∧ q[k]? = some v ∧ t = (u, v) := by
  obtain ⟨k, hk0, rfl⟩ := List.mem_iff_getElem.1 h
  have hk := hk0
  rw [List.length_zip, Nat.lt_min] at hk
  exact ⟨k, p[k]'hk.1, q[k]'hk.2, List.getElem?_eq_getElem hk.1, List.getElem?_eq_getElem hk.2, by simp⟩
theorem zip_mem_at {p q : List Nat} {k u v : Nat} (hu : p[k]? = some u) (hv : q[k]? = some v) : (u, v) ∈ p.zip q := by
  have : (p.zip q)[k]? = some (u, v) := by rw [List.getElem?_zip_eq_some]; exact ⟨hu, hv⟩
  exact List.mem_of_getElem? this

/-- What is to be done behind two classes were made one. -/
def newTodo (todo : List (Nat × Nat)) (P Q : Nd) : List (Nat × Nat) := if P.kind = 1 ∨ Q.kind = 1 then todo else todo ++ P.args.zip Q.args
/-- The program puts x under y, or y under x. -/
theorem merge_put {S : PS} {c0 c d : Nat → Nat} {a b p q x y : Nat} {P Q : Nd} {todo : List (Nat × Nat)} (hi : PInv S c d) (h : MInv S.nodes c0 a b c (todo ++ [(p, q)])) (cp : c p = x) (cq : c q = y) (hne : x ≠ y)
    (hP : S.nodes[par S.forms x]? = some P) (hQ : S.nodes[par S.forms y]? = some Q) (hh : P.kind ≠ 1 → Q.kind ≠ 1 → Heads P Q) (free : Bool) (hfree : free = false → P.kind ≠ 1 ∧ Q.kind ≠ 1 ∧ Still S.nodes c0 c)
    (x' y' : Nat) (hxy : (x' = x ∧ y' = y) ∨ (x' = y ∧ y' = x)) (R : Nd) (hR : S.nodes[par S.forms y']? = some R) :
    ∃ c' d', PInv (S.put x' y' (decide (R.kind = 1))) c' d' ∧ MInv S.nodes c0 a b c' (newTodo todo P Q) ∧ (free = false → Still S.nodes c0 c') ∧ (S.put x' y' (decide (R.kind = 1))).undo (x', y', par S.forms y', par S.ranks y') = S ∧
      nroots (par (S.put x' y' (decide (R.kind = 1))).above) S.nodes.length + 1 = nroots (par S.above) S.nodes.length := by
  have hm : (p, q) ∈ todo ++ [(p, q)] := by simp
  have hl := h.lt _ hm
  have rx := hi.root p hl.1
  have ry := hi.root q hl.2
  rw [cp] at rx; rw [cq] at ry
  have Fx := hi.forms x rx.1 rx.2.2
  have Fy := hi.forms y ry.1 ry.2.2
  have hx' : x' < S.nodes.length ∧ c x' = x' := by rcases hxy with ⟨rfl, _⟩ | ⟨rfl, _⟩; exact ⟨rx.1, rx.2.2⟩; exact ⟨ry.1, ry.2.2⟩
  have hy' : y' < S.nodes.length ∧ c y' = y' := by rcases hxy with ⟨_, rfl⟩ | ⟨_, rfl⟩; exact ⟨ry.1, ry.2.2⟩; exact ⟨rx.1, rx.2.2⟩
  have hne' : x' ≠ y' := by rcases hxy with ⟨rfl, rfl⟩ | ⟨rfl, rfl⟩; exact hne; exact hne.symm
  have hJ : MInv S.nodes c0 a b (join c x y) (newTodo todo P Q) := by
    refine MInv.join hi.wf h (fun t ht => ?_) (fun t ht => ?_) hm cp cq Fx Fy hP hQ (fun k1 k2 => ⟨hh k1 k2, fun k u v hu hv => ?_⟩)
    · unfold newTodo
      rcases List.mem_append.1 ht with ht | ht
      · split
        · exact .inr ht
        · exact .inr (List.mem_append_left _ ht)
      · simp at ht; exact .inl ht
    · unfold newTodo at ht
      split at ht
      · exact .inl (List.mem_append_left _ ht)
      · rename_i hk
        rcases List.mem_append.1 ht with ht | ht
        · exact .inl (List.mem_append_left _ ht)
        · refine .inr ⟨fun e => hk (.inl e), fun e => hk (.inr e), mem_zip_at ht⟩
    · unfold newTodo
      rw [if_neg (by rintro (e | e); exact k1 e; exact k2 e)]
      exact List.mem_append_right _ (zip_mem_at hu hv)
  have hS : free = false → Still S.nodes c0 (join c x y) := fun hf => by
    obtain ⟨k1, k2, hs⟩ := hfree hf
    exact hs.join Fx Fy hP hQ k1 k2
  refine ⟨join c x' y', _, hi.put x' y' hx'.1 hy'.1 hx'.2 hy'.2 hne' R hR, ?_, ?_, put_undo S x' y' _ (hi.rootOf x' hx'.1 hx'.2), hi.put_roots x' y' _ hx'.1 hx'.2 hne'⟩
  · rcases hxy with ⟨rfl, rfl⟩ | ⟨rfl, rfl⟩
    · exact hJ
    · exact hJ.congr hi.wf (join_comm _ c _ _) (join_comm _ c _ _)
  · intro hf
    rcases hxy with ⟨rfl, rfl⟩ | ⟨rfl, rfl⟩
    · exact hS hf
    · exact (hS hf).congr (join_comm _ c _ _)
end Go.Proofs.Ytafpbdmggnfdnaa

/- The program's store: merge. -/
namespace Go.Proofs.Ytafpbdmggnfdnaa
open Go.RowKit
set_option linter.unusedVariables false

theorem quiet_of_left {P : Program} {f : FuncId} {args : Array Value} {w : World} {n : Nat} {v : Value} (h : Calls P f args (w.drewN n) fun e w' => e = .returned v ∧ w.drewN n = w') : Calls P f args (w.drewN n) fun e w'' => e = .returned v ∧ ∃ m, w'' = w.drewN m :=
  h.mono fun _ _ ⟨he, hm⟩ => ⟨he, n, hm.symm⟩
theorem own_pop {w : World} {base : Nat} {e : TypeId} {size n g cap : Nat} {xs : List Value} (h : w.ownsRow base e size (.slice (some ⟨g, 0, none⟩) (n + 1) cap) (n + 1) xs) : w.ownsRow base e size (.slice (some ⟨g, 0, none⟩) n cap) n (xs.take (n * size)) := by
  rcases h.2 with ⟨h1, _⟩ | ⟨g', cap', cur, h1, h2, h3, h4, h5, h6, h7⟩
  · cases h1
  · injection h1 with h1 _ hc
    injection h1 with h1
    injection h1 with h1
    subst h1; subst hc
    refine ⟨by rw [List.length_take, h.1]; exact Nat.min_eq_left (Nat.mul_le_mul_right _ (by omega)), .inr ⟨g, cap, cur, rfl, h2, h3, by omega, h5, h6, ?_⟩⟩
    rw [← h7, List.take_take, Nat.min_eq_left (Nat.mul_le_mul_right _ (by omega))]
def pairCells (l : List (Nat × Nat)) : List Value := l.flatMap fun t => [.int .i64 (t.1 : Int), .int .i64 (t.2 : Int)]
def stepCells (l : List Stp) : List Value := l.flatMap fun s => [.int .i64 (s.1 : Int), .int .i64 (s.2.1 : Int), .int .i64 (s.2.2.1 : Int), .int .i64 (s.2.2.2 : Int)]
theorem pairCells_length (l : List (Nat × Nat)) : (pairCells l).length = l.length * 2 := by
  induction l with
  | nil => rfl
  | cons x l ih => simp only [pairCells, List.flatMap_cons, List.length_append, List.length_cons, List.length_nil] at ih ⊢; omega
theorem stepCells_length (l : List Stp) : (stepCells l).length = l.length * 4 := by
  induction l with
  | nil => rfl
  | cons x l ih => simp only [stepCells, List.flatMap_cons, List.length_append, List.length_cons, List.length_nil] at ih ⊢; omega
theorem pairCells_snoc (l : List (Nat × Nat)) (t : Nat × Nat) : pairCells (l ++ [t]) = pairCells l ++ [.int .i64 (t.1 : Int), .int .i64 (t.2 : Int)] := by simp [pairCells]
theorem stepCells_snoc (l : List Stp) (s : Stp) : stepCells (l ++ [s]) = stepCells l ++ [.int .i64 (s.1 : Int), .int .i64 (s.2.1 : Int), .int .i64 (s.2.2.1 : Int), .int .i64 (s.2.2.2 : Int)] := by simp [stepCells]
theorem pair_top {w : World} {base n : Nat} {e : TypeId} {v : Value} {l : List (Nat × Nat)} {p q g cap m : Nat} (h : w.ownsRow base e 2 v n (pairCells (l ++ [(p, q)]))) (hv : v = .slice (some ⟨g, 0, none⟩) m cap) :
    w.cell? ⟨g, l.length * 2, none⟩ = some (.int .i64 (p : Int)) ∧ w.cell? ⟨g, l.length * 2 + 1, none⟩ = some (.int .i64 (q : Int)) := by
  have c : ∀ j u, (pairCells (l ++ [(p, q)]))[j]? = some u → w.cell? ⟨g, j, none⟩ = some u := by
    intro j u hu
    have := h.cells (g := g) (by rw [hv]; rfl) j u hu
    rwa [addr_add', Nat.zero_add] at this
  have hl := pairCells_length l
  refine ⟨c _ _ ?_, c _ _ ?_⟩
  · rw [pairCells_snoc, List.getElem?_append_right (by omega), hl]; simp
  · rw [pairCells_snoc, List.getElem?_append_right (by omega), hl]; simp
theorem pairInfo : (Try.prog.info? 105).map (fun i => (i.zero, i.size, i.bytes)) = some (some (.agg #[.int .i64 0, .int .i64 0]), 2, 16) := by kernel_rfl
theorem stepInfo : (Try.prog.info? 108).map (fun i => (i.zero, i.size, i.bytes)) = some (some (.agg #[.int .i64 0, .int .i64 0, .int .i64 0, .int .i64 0]), 4, 32) := by kernel_rfl

/-- At the head of a round of merge. -/
structure MRel (w : World) (base : Nat) (L : Lay) (S0 : PS) (c0 : Nat → Nat) (a b : Nat) (free : Bool) (vs vw : Value) (S : PS) (c d : Nat → Nat) (todo : List (Nat × Nat)) (steps : List Stp) (wr : World) : Prop where
  st : St wr base L S
  nodes : S.nodes = S0.nodes
  inv : PInv S c d
  minv : MInv S.nodes c0 a b c todo
  undo : undoAll S steps = S0
  work : wr.ownsRow w.heap.size 105 2 vw todo.length (pairCells todo)
  stp : wr.ownsRow w.heap.size 108 4 vs steps.length (stepCells steps)
  only : Only L.fq w wr
  still : free = false → Still S.nodes c0 c
  few : steps.length + nroots (par S.above) S.nodes.length ≤ S.nodes.length
  many : todo.length ≤ 1 + steps.length * 1000000
  known : ∀ s ∈ steps, s.1 < S.nodes.length ∧ s.2.1 < S.nodes.length
/-- What merge answers. -/
def MergePost (w : World) (base : Nat) (L : Lay) (S0 : PS) (c0 : Nat → Nat) (a b : Nat) (free : Bool) (e : Ending) (w' : World) : Prop :=
  ∃ (S : PS) (c d : Nat → Nat) (steps : List Stp) (vs : Value) (err : Int), e = .returned (.tuple #[vs, .int .i64 err]) ∧ St w' base L S ∧ S.nodes = S0.nodes ∧ PInv S c d ∧ undoAll S steps = S0 ∧ w'.ownsRow w.heap.size 108 4 vs steps.length (stepCells steps) ∧ Only L.fq w w' ∧ steps.length ≤ S.nodes.length ∧ (∀ s ∈ steps, s.1 < S.nodes.length ∧ s.2.1 < S.nodes.length) ∧
    ((err = 0 ∧ MInv S.nodes c0 a b c [] ∧ (free = false → Still S.nodes c0 c)) ∨ (err = 131 ∧ Fails free S.nodes c0 a b))

/-- All of a store lies below B. -/
structure Older (L : Lay) (B : Nat) : Prop where
  fp : ∀ k, L.fp k → k < B
  ad : ∀ (i : Nat) (x : Option Addr × Nat), L.ad[i]? = some x → ∀ z, x.1 = some z → z.block < B
theorem St.older {w : World} {base : Nat} {L : Lay} {S : PS} (h : St w base L S) : Older L w.heap.size := by
  refine ⟨fun k hk => (h.fp_lt k hk).2, fun i x hx z hz => ?_⟩
  have hi : i < S.nodes.length := by rw [← h.ad]; exact (List.getElem?_eq_some_iff.1 hx).1
  exact ((h.args i _ x (List.getElem?_eq_getElem hi) hx).2 z hz).1
theorem St.beyond {F : Nat → Prop} {W W' : World} {base B : Nat} {L : Lay} {S : PS} (h : St W base L S) (old : Older L B) (ho : Only F W W') (hF : ∀ b, F b → B ≤ b) : St W' base L S :=
  h.only ho (fun b hb _ hf => by have := hF b hb; have := old.fp b hf; omega) (fun i a ha x hx hf => by have := hF _ hf; have := old.ad i a ha x hx; omega)
theorem only_of_grown {W W' : World} {row : Option Nat} (h : W.grownBy W' row) : Only (fun b => row = some b) W W' := ⟨h.os, h.tape, h.output, h.size, fun i hi hn => h.block i hi (fun e => hn e.symm)⟩
theorem St.grown {W W' : World} {base B : Nat} {L : Lay} {S : PS} {row : Option Nat} (h : St W base L S) (old : Older L B) (hg : W.grownBy W' row) (hr : ∀ b, row = some b → B ≤ b) : St W' base L S := h.beyond old (only_of_grown hg) hr
theorem four_new (W : World) (u0 u1 u2 u3 : Value) (t : TypeId) : ∀ (j : Nat) (x : Value), [u0, u1, u2, u3][j]? = some x → (W.alloc (.cells #[u0, u1, u2, u3] t)).cell? ((⟨W.heap.size, 0, none⟩ : Addr).add j) = some x := World.news_of_block (cs := #[u0, u1, u2, u3]) (heap_alloc_new W _)
theorem two_new (W : World) (u0 u1 : Value) (t : TypeId) : ∀ (j : Nat) (x : Value), [u0, u1][j]? = some x → (W.alloc (.cells #[u0, u1] t)).cell? ((⟨W.heap.size, 0, none⟩ : Addr).add j) = some x := World.news_of_block (cs := #[u0, u1]) (heap_alloc_new W _)
/-- A row of one's own lies as it lay where another row has grown. -/
theorem own_grown {W W' : World} {base base' : Nat} {e e' : TypeId} {size size' n n' : Nat} {v v' : Value} {xs xs' : List Value} (h : W.ownsRow base e size v n xs) (h' : W.ownsRow base' e' size' v' n' xs') (hne : e ≠ e') (hg : W.grownBy W' v'.ownBlock) : W'.ownsRow base e size v n xs :=
  own_keep h fun b hb => hg.block b (h.lt b hb).2 (fun e1 => own_ne h h' hne b hb e1.symm)
theorem blk_grown {W W' : World} {base : Nat} {e t : TypeId} {size n g : Nat} {v : Value} {xs : List Value} {cs : Array Value} (hb : W.heap[g]? = some (.cells cs t (0, 0))) (h : W.ownsRow base e size v n xs) (hne : e ≠ t) (hg : W.grownBy W' v.ownBlock) : W'.heap[g]? = some (.cells cs t (0, 0)) :=
  (hg.block g (Array.getElem?_eq_some_iff.1 hb).1 (fun e1 => own_blk h hb hne e1.symm)).trans hb
theorem mrel_next {w wr W : World} {base : Nat} {L : Lay} {S0 S : PS} {c0 c d c' d' : Nat → Nat} {a b x' y' : Nat} {free v : Bool} {vs vw vs' vw' : Value} {todo0 todo' : List (Nat × Nat)} {steps : List Stp} (R : MRel w base L S0 c0 a b free vs vw S c d todo0 steps wr)
    (I' : PInv (S.put x' y' v) c' d') (M' : MInv S.nodes c0 a b c' todo') (T' : free = false → Still S.nodes c0 c') (U' : (S.put x' y' v).undo (x', y', par S.forms y', par S.ranks y') = S) (N' : nroots (par (S.put x' y' v).above) S.nodes.length + 1 = nroots (par S.above) S.nodes.length)
    (hst : St W base L (S.put x' y' v)) (hw : W.ownsRow w.heap.size 105 2 vw' todo'.length (pairCells todo')) (hs : W.ownsRow w.heap.size 108 4 vs' (steps.length + 1) (stepCells steps ++ [.int .i64 (x' : Int), .int .i64 (y' : Int), .int .i64 (par S.forms y' : Int), .int .i64 (par S.ranks y' : Int)]))
    (ho : Only L.fq w W) (hxy : x' < S.nodes.length ∧ y' < S.nodes.length) (hmany : todo'.length ≤ 1 + (steps.length + 1) * 1000000) : MRel w base L S0 c0 a b free vs' vw' (S.put x' y' v) c' d' todo' (steps ++ [(x', y', par S.forms y', par S.ranks y')]) W := by
  refine ⟨hst, R.nodes, I', M', by rw [undoAll_snoc, U']; exact R.undo, hw, by rw [stepCells_snoc, List.length_append]; exact hs, ho, T', ?_, by rw [List.length_append]; exact hmany, fun s hs => ?_⟩
  · have := R.few
    rw [List.length_append, List.length_singleton]
    have hn : (S.put x' y' v).nodes.length = S.nodes.length := rfl
    rw [hn]; omega
  · rcases List.mem_append.1 hs with hs | hs
    · exact R.known s hs
    · simp at hs; subst hs; exact hxy
theorem bytes_inj {a b : ByteArray} (h : a.toList = b.toList) : a = b := by
  rw [ByteArray.toList_eq, ByteArray.toList_eq] at h
  obtain ⟨a⟩ := a
  obtain ⟨b⟩ := b
  congr 1
  exact Array.toList_inj.1 h
/-- At the head of a round over the arguments. -/
structure ARel (w W4 : World) (base : Nat) (L : Lay) (S' : PS) (P Q : Nd) (ax ay : Option Addr × Nat) (todo : List (Nat × Nat)) (vs vw : Value) (ns : Nat) (xs : List Value) (k : Nat) (wr : World) : Prop where
  st : St wr base L S'
  work : wr.ownsRow w.heap.size 105 2 vw (todo.length + k) (pairCells (todo ++ (P.args.zip Q.args).take k))
  stp : wr.ownsRow w.heap.size 108 4 vs ns xs
  only : Only L.fq w wr
  b16 : wr.heap[W4.heap.size + 1]? = some (.cells #[.int .i64 Q.kind, .string Q.name, .slice ay.1 Q.args.length ay.2] 73 (0, 0))
theorem Only.of_below' {F : Nat → Prop} {w w' : World} (h : Below w.heap.size w w') : Only F w w' := Only.of_below h F
set_option maxRecDepth 100000 in
set_option maxHeartbeats 4000000 in
theorem merge_any {w : World} {base : Nat} {L : Lay} {S0 : PS} {c0 d0 : Nat → Nat} (h : St w base L S0) (hi : PInv S0 c0 d0) (hc : Closed S0.nodes c0) (a b : Nat) (ha : a < S0.nodes.length) (hb : b < S0.nodes.length) (free : Bool) :
    Calls Try.prog 46 #[.pointer (some ⟨L.g, 0, none⟩), .int .i64 (a : Int), .int .i64 (b : Int), .bool free] w (MergePost w base L S0 c0 a b free) := by
  obtain ⟨i2, ki, kz0, kz1, kz2⟩ := info_parts pairInfo
  obtain ⟨i4, si, sz0, sz1, sz2⟩ := info_parts stepInfo
  have Ki := hide ki; have Kz0 := hide kz0; have Kz1 := hide kz1; have Kz2 := hide kz2
  have Si := hide si; have Sz0 := hide sz0; have Sz1 := hide sz1; have Sz2 := hide sz2
  clear ki kz0 kz1 kz2 si sz0 sz1 sz2
  have Old := hide h.older
  have hb1 : Below w.heap.size w (w.alloc (.cells #[.int .i64 (a : Int), .int .i64 (b : Int)] 105)) := (Below.refl _ _).alloc (Nat.le_refl _) _
  have HR : MRel w base L S0 c0 a b free (.slice none 0 0) (.slice (some ⟨w.heap.size, 0, none⟩) 1 1) S0 c0 d0 [(a, b)] [] (w.alloc (.cells #[.int .i64 (a : Int), .int .i64 (b : Int)] 105)) :=
    ⟨h.later hb1, rfl, hi, MInv.start hi.wf hc ha hb, rfl, World.ownsRow_lit w #[.int .i64 (a : Int), .int .i64 (b : Int)] 1 (Nat.le_refl _) (by simp [maxLen]) rfl, World.ownsRow_nil _ _ _ _, Only.of_below hb1 _, fun _ => Still.refl _ _, by have := nroots_le (par S0.above) S0.nodes.length; simpa using this, by simp, by simp⟩
  clear hb1
  have hm := h.many
  have Hw := hide h
  clear h hi hc
  go_enter Try.func46, Try.ntmps46
  go_wp2
  go_loopg [10, 11] (nroots (par S0.above) S0.nodes.length * 1000001 + 1) (fun k vs vw wr => ∃ (S : PS) (c d : Nat → Nat) (todo : List (Nat × Nat)) (steps : List Stp), k = nroots (par S.above) S.nodes.length * 1000001 + todo.length ∧ MRel w base L S0 c0 a b free vs vw S c d todo steps wr)
  case atStart => exact ⟨S0, c0, d0, [(a, b)], [], rfl, HR⟩
  case round =>
    obtain ⟨S, c, d, todo, steps, hk, R⟩ := hrel
    clear HR
    have Hk := hide hk; clear hk
    rcases List.eq_nil_or_concat todo with rfl | ⟨todo, ⟨p, q⟩, rfl⟩
    · obtain ⟨A, cap, rfl, -, -⟩ := own_len R.work
      go_wp2
      go_ret2
      exact ⟨S, c, d, steps, _, 0, rfl, R.st, R.nodes, R.inv, R.undo, R.stp, R.only, by have := R.few; omega, R.known, .inl ⟨rfl, R.minv, R.still⟩⟩
    · simp only [List.concat_eq_append] at R Hk
      have hlen : (todo ++ [(p, q)]).length = todo.length + 1 := by simp
      have hwork := R.work
      rw [hlen] at hwork
      obtain ⟨g, cap, rfl, hcap⟩ := own_pos hwork (by omega)
      obtain ⟨t0, t1⟩ := pair_top hwork rfl
      have hwl := (hwork.lt g rfl).2
      have hpop := hide (own_pop hwork)
      rw [pairCells_snoc, List.take_left' (pairCells_length todo)] at hpop
      have hmany := R.many
      rw [hlen] at hmany
      have hfew := R.few
      have hnn := R.st.many
      have hsl : steps.length ≤ 1000000 := by omega
      have htl : todo.length ≤ 1000000000000 := by
        have : steps.length * 1000000 ≤ 1000000 * 1000000 := Nat.mul_le_mul_right _ hsl
        omega
      have HR := hide R
      have hpq : p < S.nodes.length ∧ q < S.nodes.length := R.minv.lt (p, q) (by simp)
      clear hwork R hfew hmany
      have hsl2 := fun W => run_slice_h (P := Try.prog) W 106 (some ⟨g, 0, none⟩) (todo.length + 1) cap Try.underlying106 .i64 ((todo.length : Int)) (by omega) (by omega)
      go_upto_region 6 with fail
      obtain ⟨W1, hW1⟩ : ∃ W1, wr.alloc (.cells #[.int .i64 (p : Int), .int .i64 (q : Int)] 105) = W1 := ⟨_, rfl⟩
      have hb1 : Below wr.heap.size wr W1 := by rw [← hW1]; exact (Below.refl _ _).alloc (Nat.le_refl _) _
      have hB1 : W1.heap[wr.heap.size]? = some (.cells #[.int .i64 (p : Int), .int .i64 (q : Int)] 105 (0, 0)) := by rw [← hW1]; exact heap_alloc_new wr _
      simp only [hW1]
      clear hW1 t0 t1 hsl2
      have b0 : W1.cell? ⟨wr.heap.size, 0, none⟩ = some (.int .i64 (p : Int)) := by rw [cell_of_row _ _ _ _ _ _ hB1]; rfl
      have b1 : W1.cell? ⟨wr.heap.size, 1, none⟩ = some (.int .i64 (q : Int)) := by rw [cell_of_row _ _ _ _ _ _ hB1]; rfl
      have H1 := hide (HR.out.st.later hb1)
      have HF := hide (fun (i : Nat) (hi : i < S.nodes.length) (n : Nat) => find_any (H1.out.drewN n) HR.out.inv.forest i hi)
      go_quiet ((go_at_call 59; exact quiet_of_left (HF.out _ (by omega) _)))
      clear HF b0 b1 hB1
      obtain ⟨W2, hW2⟩ : ∃ W2, W1.drewN nq = W2 := ⟨_, rfl⟩
      have hb2 : Below wr.heap.size wr W2 := by rw [← hW2]; exact below_drewN hb1 _
      have hs2 : wr.heap.size ≤ W2.heap.size := hb2.size
      obtain ⟨x, hx⟩ : ∃ x, c p = x := ⟨_, rfl⟩
      obtain ⟨y, hy⟩ : ∃ y, c q = y := ⟨_, rfl⟩
      simp only [hW2, hx, hy]
      have rx := HR.out.inv.root p hpq.1
      have ry := HR.out.inv.root q hpq.2
      rw [hx] at rx; rw [hy] at ry
      have hxn := rx.1; have hyn := ry.1
      have Hrx := hide rx; have Hry := hide ry; have Hx := hide hx; have Hy := hide hy
      have H2 := hide (HR.out.st.later hb2)
      clear H1 hb1 hW2 W1 hx hy rx ry nq
      have Hb2 := hide hb2; clear hb2
      by_cases hxy : x = y
      · subst hxy
        have k47 : ((x : Int) == (x : Int)) = true := by simp
        go_wp2
        go_roundg (nroots (par S.above) S.nodes.length * 1000001 + todo.length)
        case measure => rw [Hk.out, hlen]; omega
        case rel => exact ⟨S, c, d, todo, steps, rfl, ⟨H2.out, HR.out.nodes, HR.out.inv, HR.out.minv.skip (p := p) (q := q) (by intro t; simp [or_comm]) (Hx.out.trans Hy.out.symm), HR.out.undo, own_keep hpop.out (fun b hb => Hb2.out.block b (hpop.out.lt b hb).2), own_keep HR.out.stp (fun b hb => Hb2.out.block b (HR.out.stp.lt b hb).2), HR.out.only.trans (Only.of_below' Hb2.out), HR.out.still, HR.out.few, by have := HR.out.many; rw [hlen] at this; omega, HR.out.known⟩⟩
      · have k47 : ((x : Int) == (y : Int)) = false := by simp; omega
        have Fx := HR.out.inv.forms x hxn Hrx.out.2.2
        have Fy := HR.out.inv.forms y hyn Hry.out.2.2
        obtain ⟨P, hP⟩ : ∃ P, S.nodes[par S.forms x]? = some P := ⟨_, List.getElem?_eq_getElem Fx.lt⟩
        obtain ⟨Q, hQ⟩ : ∃ Q, S.nodes[par S.forms y]? = some Q := ⟨_, List.getElem?_eq_getElem Fy.lt⟩
        have HP := hide hP; have HQ := hide hQ; have HFx := hide Fx; have HFy := hide Fy
        have HMx := hide (form_any H2.out HR.out.inv.forest x hxn P (by rw [Hrx.out.2.2]; exact hP))
        have HMy := hide (fun W (hW : St W base L S) => form_any hW HR.out.inv.forest y hyn Q (by rw [Hry.out.2.2]; exact hQ))
        rw [Hrx.out.2.2] at HMx; rw [Hry.out.2.2] at HMy
        clear hP hQ Fx Fy
        go_wp2_with fail
        refine HMx.out.mono ?_
        rintro e W3 ⟨ax, hax, rfl, hb3⟩
        go_wp2_with fail
        refine (HMy.out W3 (H2.out.later hb3)).mono ?_
        rintro e W4 ⟨ay, hay, rfl, hb4⟩
        go_upto_region 9 with fail
        obtain ⟨W5, hW5⟩ : ∃ W5, (W4.alloc (.cells #[.int .i64 P.kind, .string P.name, .slice ax.1 P.args.length ax.2] 73)).alloc (.cells #[.int .i64 Q.kind, .string Q.name, .slice ay.1 Q.args.length ay.2] 73) = W5 := ⟨_, rfl⟩
        have hb45 : Below W4.heap.size W4 W5 := by rw [← hW5]; exact ((Below.refl _ _).alloc (Nat.le_refl _) _).alloc (by simp) _
        have B15 : W5.heap[W4.heap.size]? = some (.cells #[.int .i64 P.kind, .string P.name, .slice ax.1 P.args.length ax.2] 73 (0, 0)) := by rw [← hW5, Below.heap_alloc _ _ _ (by simp)]; exact heap_alloc_new W4 _
        have B16 : W5.heap[W4.heap.size + 1]? = some (.cells #[.int .i64 Q.kind, .string Q.name, .slice ay.1 Q.args.length ay.2] 73 (0, 0)) := by
          rw [← hW5]; have := heap_alloc_new (W4.alloc (.cells #[.int .i64 P.kind, .string P.name, .slice ax.1 P.args.length ax.2] 73)) (.cells #[.int .i64 Q.kind, .string Q.name, .slice ay.1 Q.args.length ay.2] 73); rw [World.size_alloc] at this; exact this
        have hb5 : Below wr.heap.size wr W5 := Hb2.out.trans ((hb3.trans ((hb4.trans (hb45.mono hb4.size)).mono hb3.size)).mono hs2)
        simp only [hW5]
        clear hW5 hb45
        have H5 := hide (HR.out.st.later hb5)
        have O5 := hide (HR.out.only.trans (Only.of_below' (F := L.fq) hb5))
        have V5 := hide (own_keep HR.out.stp (fun k hk => hb5.block k (HR.out.stp.lt k hk).2))
        have U5 := hide (own_keep hpop.out (fun k hk => hb5.block k (hpop.out.lt k hk).2))
        have hsz : w.heap.size ≤ W4.heap.size := Nat.le_trans (Nat.le_trans HR.out.only.size hs2) (Nat.le_trans hb3.size hb4.size)
        have Hax := hide hax; have Hay := hide hay
        clear hb5 hb4 hb3 H2 HMx HMy Hb2 hs2 hax hay hpop W3 W2
        have x0 : W5.cell? ⟨W4.heap.size, 0, none⟩ = some (.int .i64 P.kind) := by rw [cell_of_row _ _ _ _ _ _ B15]; rfl
        have y0 : W5.cell? ⟨W4.heap.size + 1, 0, none⟩ = some (.int .i64 Q.kind) := by rw [cell_of_row _ _ _ _ _ _ B16]; rfl
        have HB15 := hide B15; have HB16 := hide B16; clear B15 B16
        obtain ⟨x', y', hxy', hput⟩ : ∃ x' y', ((x' = x ∧ y' = y) ∨ (x' = y ∧ y' = x)) ∧ ((x = x' ∧ y = y' ∧ par S.ranks x' ≤ par S.ranks y') ∨ (x = y' ∧ y = x' ∧ par S.ranks x' < par S.ranks y')) := by
          by_cases hr : par S.ranks x ≤ par S.ranks y
          · exact ⟨x, y, .inl ⟨rfl, rfl⟩, .inl ⟨rfl, rfl, hr⟩⟩
          · exact ⟨y, x, .inr ⟨rfl, rfl⟩, .inr ⟨rfl, rfl, by omega⟩⟩
        have hx' : x' < S.nodes.length ∧ y' < S.nodes.length ∧ x' ≠ y' ∧ c y' = y' := by
          rcases hxy' with ⟨rfl, rfl⟩ | ⟨rfl, rfl⟩
          · exact ⟨hxn, hyn, hxy, Hry.out.2.2⟩
          · exact ⟨hyn, hxn, Ne.symm hxy, Hrx.out.2.2⟩
        obtain ⟨Z, hZ⟩ : ∃ Z, S.nodes[par S.forms y']? = some Z := ⟨_, List.getElem?_eq_getElem (HR.out.inv.forms y' hx'.2.1 hx'.2.2.2).lt⟩
        have HPUT := hide (put_any H5.out HR.out.inv.forest x y x' y' hx'.1 hx'.2.1 hx'.2.2.1 hx'.2.2.2 Z hZ (fun i => Nat.le_trans (HR.out.inv.rank_le i) hnn) hput)
        have HMP := hide (fun (hh : P.kind ≠ 1 → Q.kind ≠ 1 → Heads P Q) (hfree : free = false → P.kind ≠ 1 ∧ Q.kind ≠ 1 ∧ Still S.nodes c0 c) => merge_put HR.out.inv HR.out.minv Hx.out Hy.out hxy HP.out HQ.out hh free hfree x' y' hxy' Z hZ)
        have Hx' := hide (And.intro hx'.1 hx'.2.1)
        clear hput hxy' hx' hZ
        by_cases hv : P.kind = 1 ∨ Q.kind = 1
        · have Hv := hide hv
          have hcase : ((P.kind == 1) = true) ∨ ((P.kind == 1) = false ∧ (Q.kind == 1) = true) := by
            rcases Decidable.em (P.kind = 1) with e | e
            · exact .inl (by simpa using e)
            · exact .inr ⟨by simpa using e, by rcases hv with h1 | h1; exact absurd h1 e; simpa using h1⟩
          clear hv
          rcases hcase with k1 | ⟨k1, k2⟩
          all_goals
            cases free
            case' false =>
              go_wp2
              go_ret2
              exact ⟨S, c, d, steps, _, 131, rfl, H5.out, HR.out.nodes, HR.out.inv, HR.out.undo, V5.out, O5.out, by have := HR.out.few; omega, HR.out.known, .inr ⟨rfl, HR.out.minv.var_fails (p := p) (q := q) (by simp) Hx.out Hy.out hxy HFx.out HFy.out HP.out HQ.out Hv.out⟩⟩
            case' true =>
              obtain ⟨c', d', I', M', -, U', N'⟩ := HMP.out (fun e1 e2 => by rcases Hv.out with h1 | h1; exact absurd h1 e1; exact absurd h1 e2) (fun h1 => by cases h1)
              go_wp2_with fail
              refine HPUT.out.mono ?_
              rintro e W6 ⟨rfl, H6, O6⟩
              have v6 := own_only V5.out O6 (fun k hk hf => by have := (V5.out.lt k hk).1; have := Old.out.fp k (Lay.fq_fp hf); omega)
              have u6 := own_only U5.out O6 (fun k hk hf => by have := (U5.out.lt k hk).1; have := Old.out.fp k (Lay.fq_fp hf); omega)
              have hz6 : w.heap.size ≤ W6.heap.size := Nat.le_trans O5.out.size O6.size
              have H6' := hide (H6.later ((Below.refl _ W6).alloc (Nat.le_refl _) (.cells #[.int .i64 (x' : Int), .int .i64 (y' : Int), .int .i64 (par S.forms y' : Int), .int .i64 (par S.ranks y' : Int)] 108)))
              have V6 := hide (v6.alloc (.cells #[.int .i64 (x' : Int), .int .i64 (y' : Int), .int .i64 (par S.forms y' : Int), .int .i64 (par S.ranks y' : Int)] 108))
              have U6 := hide (u6.alloc (.cells #[.int .i64 (x' : Int), .int .i64 (y' : Int), .int .i64 (par S.forms y' : Int), .int .i64 (par S.ranks y' : Int)] 108))
              have O6' := hide ((O5.out.trans O6).alloc (.cells #[.int .i64 (x' : Int), .int .i64 (y' : Int), .int .i64 (par S.forms y' : Int), .int .i64 (par S.ranks y' : Int)] 108))
              have N6 := hide (four_new W6 (.int .i64 (x' : Int)) (.int .i64 (y' : Int)) (.int .i64 (par S.forms y' : Int)) (.int .i64 (par S.ranks y' : Int)) 108)
              have E6 : Hid (∀ u ∈ [Value.int .i64 (x' : Int), .int .i64 (y' : Int), .int .i64 (par S.forms y' : Int), .int .i64 (par S.ranks y' : Int)], u.oneCell' = true) := hide (by simp [Value.oneCell'])
              have A6 := hide (Nat.add_le_add_right hsl 1)
              clear H6 O6 v6 u6 x0 y0
              go_wp2_with (at_builtin; refine wpList_append_own _ rfl (.tmp 65) (.tmp 70) 84 rfl w.heap.size 108 i4 (.agg #[.int .i64 0, .int .i64 0, .int .i64 0, .int .i64 0]) 4 32 Try.underlying84 Si.out Sz0.out Sz1.out Sz2.out rfl (by decide) u10 steps.length (stepCells steps) rfl V6.out ⟨W6.heap.size, 0, none⟩ 1 1 [.int .i64 (x' : Int), .int .i64 (y' : Int), .int .i64 (par S.forms y' : Int), .int .i64 (par S.ranks y' : Int)] rfl rfl N6.out E6.out (by simp only [maxLen]; omega) (by omega) (by simp; omega) ?_; intro v7 W7 own7 grow7 nil7; clear nil7)
              have H7 := hide (H6'.out.grown Old.out grow7 (fun k hk => (V6.out.lt k hk).1))
              have U7 := hide (own_grown U6.out V6.out (by decide) grow7)
              have O7 := hide (O6'.out.grown grow7 (fun k hk => .inr (V6.out.lt k hk).1))
              have V7 := hide own7
              clear own7 grow7
              go_roundg (nroots (par (S.put x' y' (decide (Z.kind = 1))).above) S.nodes.length * 1000001 + todo.length)
              case measure => rw [Hk.out, hlen]; omega
              case rel =>
                have hnt : newTodo todo P Q = todo := by unfold newTodo; rw [if_pos Hv.out]
                rw [hnt] at M'
                exact ⟨_, c', d', todo, _, rfl, mrel_next HR.out I' M' (fun h1 => by cases h1) U' N' H7.out U7.out V7.out O7.out Hx'.out (by have := HR.out.many; rw [hlen] at this; omega)⟩
        · have hv1 : P.kind ≠ 1 := fun e => hv (.inl e)
          have hv2 : Q.kind ≠ 1 := fun e => hv (.inr e)
          have Hv1 := hide hv1; have Hv2 := hide hv2
          have k1 : (P.kind == 1) = false := by simpa using hv1
          have k2 : (Q.kind == 1) = false := by simpa using hv2
          clear hv hv1 hv2
          by_cases hh : Heads P Q
          · have Hh := hide hh
            obtain ⟨c', d', I', M', T', U', N'⟩ := HMP.out (fun _ _ => hh) (fun h1 => ⟨Hv1.out, Hv2.out, HR.out.still h1⟩)
            have x1 : W5.cell? ⟨W4.heap.size, 1, none⟩ = some (.string P.name) := by rw [cell_of_row _ _ _ _ _ _ HB15.out]; rfl
            have y1 : W5.cell? ⟨W4.heap.size + 1, 1, none⟩ = some (.string Q.name) := by rw [cell_of_row _ _ _ _ _ _ HB16.out]; rfl
            have x2 : W5.cell? ⟨W4.heap.size, 2, none⟩ = some (.slice ax.1 P.args.length ax.2) := by rw [cell_of_row _ _ _ _ _ _ HB15.out]; rfl
            have y2 : W5.cell? ⟨W4.heap.size + 1, 2, none⟩ = some (.slice ay.1 Q.args.length ay.2) := by rw [cell_of_row _ _ _ _ _ _ HB16.out]; rfl
            have k3 : (P.kind != Q.kind) = false := by simpa using hh.1
            have k4 : P.name.toList = Q.name.toList := by rw [hh.2.1]
            have k5 : ((P.args.length : Int) != (Q.args.length : Int)) = false := by have := hh.2.2; simp; omega
            have hQl : Q.args.length = P.args.length := hh.2.2.symm
            have HQl := hide hQl
            have hPf := HR.out.st.few _ _ HP.out
            have HI' := hide I'; have HM' := hide M'; have HT' := hide T'; have HU' := hide U'; have HN' := hide N'
            clear hh hQl I' M' T' U' N' HMP
            go_wp2_with fail
            clear k1 k2 k3 k4 k5
            refine HPUT.out.mono ?_
            rintro e W6 ⟨rfl, H6, O6⟩
            have v6 := own_only V5.out O6 (fun k hk hf => by have := (V5.out.lt k hk).1; have := Old.out.fp k (Lay.fq_fp hf); omega)
            have u6 := own_only U5.out O6 (fun k hk hf => by have := (U5.out.lt k hk).1; have := Old.out.fp k (Lay.fq_fp hf); omega)
            have hz6 : w.heap.size ≤ W6.heap.size := Nat.le_trans O5.out.size O6.size
            have b15 : W6.heap[W4.heap.size]? = some (.cells #[.int .i64 P.kind, .string P.name, .slice ax.1 P.args.length ax.2] 73 (0, 0)) := (O6.block _ (Array.getElem?_eq_some_iff.1 HB15.out).1 (fun hf => by have := Old.out.fp _ (Lay.fq_fp hf); omega)).trans HB15.out
            have b16 : W6.heap[W4.heap.size + 1]? = some (.cells #[.int .i64 Q.kind, .string Q.name, .slice ay.1 Q.args.length ay.2] 73 (0, 0)) := (O6.block _ (Array.getElem?_eq_some_iff.1 HB16.out).1 (fun hf => by have := Old.out.fp _ (Lay.fq_fp hf); omega)).trans HB16.out
            have C15 := hide ((Below.heap_alloc W6 (.cells #[.int .i64 (x' : Int), .int .i64 (y' : Int), .int .i64 (par S.forms y' : Int), .int .i64 (par S.ranks y' : Int)] 108) _ (Array.getElem?_eq_some_iff.1 b15).1).trans b15)
            have C16 := hide ((Below.heap_alloc W6 (.cells #[.int .i64 (x' : Int), .int .i64 (y' : Int), .int .i64 (par S.forms y' : Int), .int .i64 (par S.ranks y' : Int)] 108) _ (Array.getElem?_eq_some_iff.1 b16).1).trans b16)
            have H6' := hide (H6.later ((Below.refl _ W6).alloc (Nat.le_refl _) (.cells #[.int .i64 (x' : Int), .int .i64 (y' : Int), .int .i64 (par S.forms y' : Int), .int .i64 (par S.ranks y' : Int)] 108)))
            have V6 := hide (v6.alloc (.cells #[.int .i64 (x' : Int), .int .i64 (y' : Int), .int .i64 (par S.forms y' : Int), .int .i64 (par S.ranks y' : Int)] 108))
            have U6 := hide (u6.alloc (.cells #[.int .i64 (x' : Int), .int .i64 (y' : Int), .int .i64 (par S.forms y' : Int), .int .i64 (par S.ranks y' : Int)] 108))
            have O6' := hide ((O5.out.trans O6).alloc (.cells #[.int .i64 (x' : Int), .int .i64 (y' : Int), .int .i64 (par S.forms y' : Int), .int .i64 (par S.ranks y' : Int)] 108))
            have N6 := hide (four_new W6 (.int .i64 (x' : Int)) (.int .i64 (y' : Int)) (.int .i64 (par S.forms y' : Int)) (.int .i64 (par S.ranks y' : Int)) 108)
            have E6 : Hid (∀ u ∈ [Value.int .i64 (x' : Int), .int .i64 (y' : Int), .int .i64 (par S.forms y' : Int), .int .i64 (par S.ranks y' : Int)], u.oneCell' = true) := hide (by simp [Value.oneCell'])
            clear H6 O6 v6 u6 x0 y0 x1 y1 x2 y2 b15 b16
            go_upto_region 16 with (at_builtin; refine wpList_append_own _ rfl (.tmp 94) (.tmp 99) 84 rfl w.heap.size 108 i4 (.agg #[.int .i64 0, .int .i64 0, .int .i64 0, .int .i64 0]) 4 32 Try.underlying84 Si.out Sz0.out Sz1.out Sz2.out rfl (by decide) u10 steps.length (stepCells steps) rfl V6.out ⟨W6.heap.size, 0, none⟩ 1 1 [.int .i64 (x' : Int), .int .i64 (y' : Int), .int .i64 (par S.forms y' : Int), .int .i64 (par S.ranks y' : Int)] rfl rfl N6.out E6.out (by simp only [maxLen]; omega) (by omega) (by simp; omega) ?_; intro v7 W7 own7 grow7 nil7; clear nil7)
            have A7 : Hid (ARel w W4 base L (S.put x' y' (decide (Z.kind = 1))) P Q ax ay todo v7 (.slice (some ⟨g, 0, none⟩) todo.length cap) (steps.length + 1) (stepCells steps ++ [.int .i64 (x' : Int), .int .i64 (y' : Int), .int .i64 (par S.forms y' : Int), .int .i64 (par S.ranks y' : Int)]) 0 W7) :=
              hide ⟨H6'.out.grown Old.out grow7 (fun k hk => (V6.out.lt k hk).1), by simpa using own_grown U6.out V6.out (by decide) grow7, own7, O6'.out.grown grow7 (fun k hk => .inr (V6.out.lt k hk).1), blk_grown C16.out V6.out (by decide) grow7⟩
            have D15 := blk_grown C15.out V6.out (by decide) grow7
            have x2 : W7.cell? ⟨W4.heap.size, 2, none⟩ = some (.slice ax.1 P.args.length ax.2) := by rw [cell_of_row _ _ _ _ _ _ D15]; rfl
            clear own7 grow7 C15 C16 H6' V6 U6 O6' N6 E6 D15 HB15 HB16 H5 O5 V5 U5
            go_wp2
            go_loopw [11, 104] (fun vw vi wq => ∃ k : Nat, vi = .int .i64 k ∧ k ≤ P.args.length ∧ ARel w W4 base L (S.put x' y' (decide (Z.kind = 1))) P Q ax ay todo v7 vw (steps.length + 1) (stepCells steps ++ [.int .i64 (x' : Int), .int .i64 (y' : Int), .int .i64 (par S.forms y' : Int), .int .i64 (par S.ranks y' : Int)]) k wq) (fun _ vi _ => P.args.length - (intOf vi).toNat)
            case atStart => exact ⟨0, rfl, by omega, A7.out⟩
            case round =>
              obtain ⟨k, rfl, hk, AR⟩ := hrel
              clear x2
              by_cases hlt : k < P.args.length
              · have hltq : k < Q.args.length := by have := HQl.out; omega
                obtain ⟨b1, o1, hb1, -, c1⟩ := (AR.st.args (par S.forms x) P ax HP.out Hax.out).1.at_ k (by simpa [cast] using hlt)
                obtain ⟨b2, o2, hb2, -, c2⟩ := (AR.st.args (par S.forms y) Q ay HQ.out Hay.out).1.at_ k (by simpa [cast] using hltq)
                simp only [cast, List.getElem_map] at c1 c2
                obtain ⟨u, hu⟩ : ∃ u, P.args[k] = u := ⟨_, rfl⟩
                obtain ⟨v, hv⟩ : ∃ v, Q.args[k] = v := ⟨_, rfl⟩
                rw [hu] at c1; rw [hv] at c2
                have Hu := hide hu; have Hvv := hide hv
                have y2 : wr.cell? ⟨W4.heap.size + 1, 2, none⟩ = some (.slice ay.1 Q.args.length ay.2) := by rw [cell_of_row _ _ _ _ _ _ AR.b16]; rfl
                have hwlt : W4.heap.size + 1 < wr.heap.size := (Array.getElem?_eq_some_iff.1 AR.b16).1
                rw [hb1]
                rw [hb2] at y2
                have hQf := HR.out.st.few _ _ HQ.out
                have WK := hide (AR.work.alloc (.cells #[.int .i64 (u : Int), .int .i64 (v : Int)] 105))
                have N8 := hide (two_new wr (.int .i64 (u : Int)) (.int .i64 (v : Int)) 105)
                have E8 : Hid (∀ t ∈ [Value.int .i64 (u : Int), .int .i64 (v : Int)], t.oneCell' = true) := hide (by simp [Value.oneCell'])
                have S8 := hide (AR.st.later ((Below.refl _ wr).alloc (Nat.le_refl _) (.cells #[.int .i64 (u : Int), .int .i64 (v : Int)] 105)))
                have T8 := hide (AR.stp.alloc (.cells #[.int .i64 (u : Int), .int .i64 (v : Int)] 105))
                have O8 := hide (AR.only.alloc (.cells #[.int .i64 (u : Int), .int .i64 (v : Int)] 105))
                have B8 := hide ((Below.heap_alloc wr (.cells #[.int .i64 (u : Int), .int .i64 (v : Int)] 105) _ hwlt).trans AR.b16)
                have hz8 : w.heap.size ≤ wr.heap.size := AR.only.size
                have HB1 := hide hb1; have HB2 := hide hb2
                clear hb1 hb2 hu hv
                go_wp2_with (at_builtin; refine wpList_append_own _ rfl (.tmp 109) (.tmp 117) 106 rfl w.heap.size 105 i2 (.agg #[.int .i64 0, .int .i64 0]) 2 16 Try.underlying106 Ki.out Kz0.out Kz1.out Kz2.out rfl (by decide) u11 (todo.length + k) (pairCells (todo ++ (P.args.zip Q.args).take k)) rfl WK.out ⟨wr.heap.size, 0, none⟩ 1 1 [.int .i64 (u : Int), .int .i64 (v : Int)] rfl rfl N8.out E8.out (by simp only [maxLen]; omega) (by omega) (by simp; omega) ?_; intro v8 W8 own8 grow8 nil8; clear nil8)
                go_roundw
                case measure => simp [intOf]; omega
                case rel =>
                  refine ⟨k + 1, by go_num, by omega, S8.out.grown Old.out grow8 (fun k hk => (WK.out.lt k hk).1), ?_, own_grown T8.out WK.out (by decide) grow8, O8.out.grown grow8 (fun k hk => .inr (WK.out.lt k hk).1), blk_grown B8.out WK.out (by decide) grow8⟩
                  have hz : (P.args.zip Q.args)[k]? = some (u, v) := by rw [List.getElem?_zip_eq_some]; exact ⟨by rw [List.getElem?_eq_getElem hlt, Hu.out], by rw [List.getElem?_eq_getElem hltq, Hvv.out]⟩
                  rw [List.take_add_one, hz, Option.toList_some, ← List.append_assoc, pairCells_snoc, ← Nat.add_assoc]
                  exact own8
              · go_wp2
                obtain rfl : k = P.args.length := by omega
                go_roundg (nroots (par (S.put x' y' (decide (Z.kind = 1))).above) S.nodes.length * 1000001 + (todo.length + P.args.length))
                case measure => rw [Hk.out, hlen]; have := HN'.out; omega
                case rel =>
                  have hzl : (P.args.zip Q.args).length = P.args.length := by rw [List.length_zip, HQl.out, Nat.min_self]
                  have hnt : newTodo todo P Q = todo ++ P.args.zip Q.args := by unfold newTodo; rw [if_neg (by rintro (e | e); exact Hv1.out e; exact Hv2.out e)]
                  have hM := HM'.out
                  rw [hnt] at hM
                  have hwk := AR.work
                  rw [List.take_of_length_le (by omega), ← hzl, ← List.length_append] at hwk
                  refine ⟨_, c', d', todo ++ P.args.zip Q.args, _, ?_, mrel_next HR.out HI'.out hM HT'.out HU'.out HN'.out AR.st hwk AR.stp AR.only Hx'.out ?_⟩
                  · rw [List.length_append, hzl]; rfl
                  · have := HR.out.many; rw [hlen] at this; rw [List.length_append, hzl]; omega
          · have x1 : W5.cell? ⟨W4.heap.size, 1, none⟩ = some (.string P.name) := by rw [cell_of_row _ _ _ _ _ _ HB15.out]; rfl
            have y1 : W5.cell? ⟨W4.heap.size + 1, 1, none⟩ = some (.string Q.name) := by rw [cell_of_row _ _ _ _ _ _ HB16.out]; rfl
            have x2 : W5.cell? ⟨W4.heap.size, 2, none⟩ = some (.slice ax.1 P.args.length ax.2) := by rw [cell_of_row _ _ _ _ _ _ HB15.out]; rfl
            have y2 : W5.cell? ⟨W4.heap.size + 1, 2, none⟩ = some (.slice ay.1 Q.args.length ay.2) := by rw [cell_of_row _ _ _ _ _ _ HB16.out]; rfl
            have Hh := hide hh
            have hcase : ((P.kind != Q.kind) = true) ∨ ((P.kind != Q.kind) = false ∧ ¬ P.name.toList = Q.name.toList) ∨ ((P.kind != Q.kind) = false ∧ P.name.toList = Q.name.toList ∧ ((P.args.length : Int) != (Q.args.length : Int)) = true) := by
              by_cases e1 : P.kind = Q.kind
              · by_cases e2 : P.name = Q.name
                · refine .inr (.inr ⟨by simpa using e1, by rw [e2], ?_⟩)
                  have e3 : P.args.length ≠ Q.args.length := fun e3 => hh ⟨e1, e2, e3⟩
                  simp; omega
                · exact .inr (.inl ⟨by simpa using e1, fun e3 => e2 (bytes_inj e3)⟩)
              · exact .inl (by simpa using e1)
            clear hh
            rcases hcase with k3 | ⟨k3, k4⟩ | ⟨k3, k4, k5⟩
            all_goals
              go_wp2
              go_ret2
              exact ⟨S, c, d, steps, _, 131, rfl, H5.out, HR.out.nodes, HR.out.inv, HR.out.undo, V5.out, O5.out, by have := HR.out.few; omega, HR.out.known, .inr ⟨rfl, Fails.of_none (HR.out.minv.clash (p := p) (q := q) (by simp) Hx.out Hy.out HFx.out HFy.out HP.out HQ.out Hv1.out Hv2.out Hh.out)⟩⟩
end Go.Proofs.Ytafpbdmggnfdnaa

/- slices.Backward over a slice of steps: what its iterator gives. -/
namespace Go.Proofs.Ytafpbdmggnfdnaa
open Go.RowKit Go.Shelf
set_option linter.unusedVariables false
attribute [local go_sem] Oper.semAt_some

def stpV (s : Stp) : Value := .agg #[.int .i64 (s.1 : Int), .int .i64 (s.2.1 : Int), .int .i64 (s.2.2.1 : Int), .int .i64 (s.2.2.2 : Int)]
/-- The slice of these steps lies there. -/
def StpsAt (W : World) (A : Option Addr) (es : List Stp) : Prop := ∀ (i : Nat) (s : Stp), es[i]? = some s → ∃ b off, A = some ⟨b, off, none⟩ ∧ W.cell? ⟨b, off + i * 4, none⟩ = some (.int .i64 (s.1 : Int)) ∧ W.cell? ⟨b, off + i * 4 + 1, none⟩ = some (.int .i64 (s.2.1 : Int)) ∧ W.cell? ⟨b, off + i * 4 + 2, none⟩ = some (.int .i64 (s.2.2.1 : Int)) ∧ W.cell? ⟨b, off + i * 4 + 3, none⟩ = some (.int .i64 (s.2.2.2 : Int))

set_option maxRecDepth 100000 in
set_option maxHeartbeats 2000000 in
theorem back1_in (F : Fence) (n : Nat) (hf : F.fn 68) (hro : F.round = none) (hn : 1 ≤ n) (l Bs : Nat) (Fp : Nat → Prop) (A : Option Addr) (cap : Nat) {α : Type} (idx : α → Nat) (val : α → Stp) (es : List α) (hidx : ∀ i (h : i < es.length), idx es[i] = i) (hlen : es.length ≤ 1000000)
    (J Jx : List α → World → Prop)
    (hY : ∀ pre x W, J pre W → pre.length < es.length → YieldAt F (n - 1) Try.prog l #[.int .i64 (idx x : Int), stpV (val x)] W fun e W' =>
      (e = .returned (.bool true) ∧ J (pre ++ [x]) W' ∧ Only Fp W W') ∨ (e = .returned (.bool false) ∧ Jx (pre ++ [x]) W'))
    (W : World) (hB : W.cell? ⟨Bs, 0, none⟩ = some (.slice A es.length cap)) (hBF : ¬ Fp Bs) (hc : StpsAt W A (es.map val)) (hcF : ∀ a, A = some a → ¬ Fp a.block) (h0 : J [] W) :
    CallsIn F n Try.prog 68 #[.func (.yield l) #[] #[], .pointer (some ⟨Bs, 0, none⟩)] W fun e W' => (∃ v, e = .returned v) ∧ ((∃ ys, ys = es.reverse ∧ J ys W') ∨ (∃ pre, True ∧ Jx pre W')) := by
  refine callsIn_of_wp Try.func68 rfl hf ?_ hro
  simp only [Try.ntmps68, List.size_toArray, List.length_cons, List.length_nil, Nat.reduceAdd, Nat.reduceSub, Array.replicate_succ, Array.replicate_zero, List.push_toArray, List.append_toArray, List.nil_append, List.cons_append]
  have hBl := World.block_lt_of_cell? W _ hB
  gi_wp2
  gi_loopw [3] (fun i wr => ∃ m : Nat, m ≤ es.length ∧ i = .int .i64 ((m : Int) - 1) ∧ J (es.drop m).reverse wr ∧ Only Fp W wr) (fun i _ => (intOf i + 1).toNat)
  case atStart => exact ⟨es.length, Nat.le_refl _, rfl, by simpa using h0, Only.refl _ _⟩
  case round =>
    obtain ⟨m, hm, rfl, hJs, ho⟩ := hrel
    rcases m with _ | m
    · rw [show ((0 : Nat) : Int) - 1 = -1 by omega]
      gi_wp2
      go_end0
      exact ⟨⟨_, rfl⟩, .inl ⟨_, by simp, hJs⟩⟩
    · rw [show ((m + 1 : Nat) : Int) - 1 = (m : Int) by omega]
      have hme : (es.map val)[m]? = some (val (es[m]'(by omega))) := by rw [List.getElem?_map, List.getElem?_eq_getElem (by omega)]; rfl
      obtain ⟨b, off, rfl, d0, d1, d2, d3⟩ := hc m _ hme
      have hnb : ¬ Fp b := hcF _ rfl
      have cx : wr.cell? ⟨Bs, 0, none⟩ = some (.slice (some ⟨b, off, none⟩) es.length cap) := (ho.cell (p := ⟨Bs, 0, none⟩) hBl hBF).trans hB
      have e0 := (ho.cell (p := ⟨b, off + m * 4, none⟩) (World.block_lt_of_cell? W _ d0) hnb).trans d0
      have e1 := (ho.cell (p := ⟨b, off + m * 4 + 1, none⟩) (World.block_lt_of_cell? W _ d1) hnb).trans d1
      have e2 := (ho.cell (p := ⟨b, off + m * 4 + 2, none⟩) (World.block_lt_of_cell? W _ d2) hnb).trans d2
      have e3 := (ho.cell (p := ⟨b, off + m * 4 + 3, none⟩) (World.block_lt_of_cell? W _ d3) hnb).trans d3
      obtain ⟨fn, tmps, assign, body, hy, hR⟩ := hY _ (es[m]'(by omega)) wr hJs (by simp; omega)
      have hmi := hidx m (by omega)
      obtain ⟨x, hx⟩ : ∃ x, es[m]'(by omega) = x := ⟨_, rfl⟩
      rw [hx] at e0 e1 e2 e3 hy hR hmi
      rw [hmi] at hy
      unfold stpV at hy
      have HD : Hid ((es.drop m).reverse = (es.drop (m + 1)).reverse ++ [x]) := hide (by rw [List.drop_eq_getElem_cons (by omega : m < es.length), List.reverse_cons, hx])
      clear hx hmi d0 d1 d2 d3 hme
      gi_wp2
      refine hR.mono ?_
      rintro e W3 (⟨rfl, hJ3, hk3⟩ | ⟨rfl, hJx3⟩)
      · gi_wp2
        go_roundw
        case rel => exact ⟨m, by omega, rfl, by rw [HD.out]; exact hJ3, ho.trans hk3⟩
        case measure => simp [intOf]
      · gi_wp2
        refine bodyPost_ret (results_none rfl _ _ _) rfl ?_
        exact ⟨⟨_, rfl⟩, .inr ⟨_, trivial, hJx3⟩⟩

set_option maxHeartbeats 1000000 in
theorem back_in (F : Fence) (n : Nat) (hf : F.fn 64) (hro : F.round = none) (v : Value) (hv : v.oneCell' = true) (w : World) :
    CallsIn F n Try.prog 64 #[v] w fun e w' => e = .returned (.func (.func 68) #[] #[.pointer (some ⟨w.heap.size, 0, none⟩)]) ∧ w' = w.alloc (.cells #[v] 84) := by
  refine callsIn_of_wp Try.func64 rfl hf ?_ hro
  simp only [Try.ntmps64, List.size_toArray, List.length_cons, List.length_nil, Nat.reduceAdd, Nat.reduceSub, Array.replicate_succ, Array.replicate_zero, List.push_toArray, List.append_toArray, List.nil_append, List.cons_append]
  cases v <;> simp [Value.oneCell'] at hv
  all_goals
    gi_wp2
    go_ret
    exact ⟨rfl, rfl⟩
end Go.Proofs.Ytafpbdmggnfdnaa

/- A region that draws its order, in a round of a loop over a function: one walk in the order of the text, a tail behind it. -/
namespace Go.Proofs.Ytafpbdmggnfdnaa
open Go
set_option linter.unusedVariables false

section
variable {P : Program} {ops : Array Oper} {l n : Nat}
theorem wpIn_of_wp_round {o : Oper} {a : Act} {w : World} {K K' : Act → World → Prop} {Q : Exit → Act → World → Prop} (hd : ∀ c, o.op ≠ .defer c) (hK : ∀ a w, K a w → K' a w) (h : o.wp P a w K Q) : o.wpIn (Fence.wide.inRound l) n P a w K' Q := by
  refine ⟨fun _ _ => trivial, ?_⟩
  rw [Fence.inRound_round, Oper.semAt_some l _ _ hd]
  unfold Oper.wp at h
  generalize (execOp a.eval o).run P w = r at *
  cases r with
  | ok x w' =>
    cases x <;> simp only [Oper.upon, Oper.uponIn] at h ⊢
    case value v => exact hK _ _ h
    case skip => exact hK _ _ h
    case defer d => exact hK _ _ h
    case enter f args =>
      refine ⟨(fun hh => by cases hh), CallsIn.inRound l (callsIn_wide.2 (h.mono fun e w'' he => ?_))⟩
      cases e with
      | returned v => exact hK _ _ he
      | panicked c => exact he
      | outgrown => exact he
    case row row args => exact ⟨fun hh => (by cases hh), fun c cs _ => let ⟨v, w'', hv, hs⟩ := h c cs; ⟨v, w'', hK _ _ hv, stepsIn_wide.2 hs⟩⟩
  | halt x w' => cases x <;> simp only [Oper.upon, Oper.uponIn] at h ⊢ <;> exact h
theorem wpAnyIn_of_wpAny {Q : Exit → Act → World → Prop} {md : Region.Mode} (hout : ¬ LetsOut Q) (hd : ∀ (i : Nat) (o : Oper), ops[i]? = some o → ∀ c, o.op ≠ .defer c) : ∀ (fuel : Nat) (listed : Array Bool) (a : Act) (w : World), wpAny P md ops Q fuel listed a w → wpAnyIn (Fence.wide.inRound l) n P md ops Q fuel listed a w := by
  intro fuel
  induction fuel with
  | zero => intro listed a w h; exact h
  | succ fuel ih =>
    intro listed a w h
    refine ⟨h.1, fun i hi => ?_⟩
    have h2 := h.2 i hi
    unfold wpOp at h2
    unfold wpOpIn
    cases ho : ops[i]? with
    | none => simp only [ho] at h2 ⊢; exact ih _ _ _ h2
    | some o =>
      simp only [ho] at h2 ⊢
      split
      · rename_i hw
        simp only [hw, if_true] at h2
        exact wpIn_of_wp_round (hd i o ho) (fun a w => ih _ a w) (h2.resolve_right fun h3 => hout h3.2)
      · rename_i hw
        simp only [hw] at h2
        exact ⟨fun _ _ => trivial, ih _ _ _ h2⟩
/-- All but the last few operations read; the rest come in one order. -/
theorem round_still_tail {id : Nat} {Q : Exit → Act → World → Prop} {a : Act} {w : World} {os : List Oper} (k : Nat) (hout : ¬ LetsOut Q) (hm : P.follows .mixedOrders = true) (hB : Region.lexTailB .any os.toArray k = true) (hd : (os.all fun o => match o.op with | .defer _ => false | _ => true) = true)
    (h : wpStill P os.toArray { w with drawn := w.drawn + 1 } (fun a' => wpList P os.toArray Q (os.drop k) a' { w with drawn := w.drawn + 1 }) (os.take k) a) : (Code.region id os.toArray true).wpIn (Fence.wide.inRound l) n P Q a w := by
  have hd' : ∀ (i : Nat) (o : Oper), os.toArray[i]? = some o → ∀ c, o.op ≠ .defer c := by
    intro i o ho c hc
    have hmem : o ∈ os := by simpa using List.mem_of_getElem? (show os[i]? = some o by simpa using ho)
    have := List.all_eq_true.1 hd o hmem
    rw [hc] at this
    cases this
  simp only [Region.lexTailB, Bool.and_eq_true, decide_eq_true_eq] at hB
  obtain ⟨⟨⟨⟨hsel, hn⟩, hs⟩, hc⟩, hlex⟩ := hB
  have hk : k < os.length := by simpa using hn
  have htl : (os.take k).length = k := by rw [List.length_take]; omega
  have hdl : (os.drop k).length = os.toArray.size - k := by simp
  have inv0 : HeadInv .any os.toArray k (Array.replicate os.toArray.size false) :=
    ⟨by simp, fun j oj _ hl => (by rw [getD_replicate_false] at hl; cases hl), fun t _ ht => getD_in (by simpa using ht) (getD_replicate_false _ _)⟩
  have H := wpAnyL_lex (md := .any) (g := os.toArray.size - k) hsel hs hc hn (os.take k) 0 _ a (fun j hj => by
    have hj' : j < k := by rw [htl] at hj; exact hj
    simp [hj']) (by simpa using htl) inv0 (by rw [htl]; exact hlex) h
  have hall := wpAny_of_head (Q' := Q) (g := os.toArray.size - k) (fun listed a' hL => by
    have := wpAny_of_seq (md := .any) (Q' := Q) (os.drop k) k listed a' { w with drawn := w.drawn + 1 } (fun j => by simp [List.getElem?_drop]) (by rw [hdl]; exact hL.1) hL.2
    rwa [hdl] at this) _ _ _ H
  rw [htl, show k + (os.toArray.size - k) = os.toArray.size by omega] at hall
  exact wpIn_region_any hm (wpAnyIn_of_wpAny hout hd' _ _ _ _ hall)
end
end Go.Proofs.Ytafpbdmggnfdnaa
