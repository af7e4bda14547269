/- Plain: what holds of the program's store; what put and undo do to it. -/
import Derived.Test.YtafpbdmggnfdnaaStorePut
namespace Go.Proofs.Ytafpbdmggnfdnaa
set_option linter.unusedVariables false

/-- How many of the first n are roots. -/
def nroots (p : Nat → Nat) : Nat → Nat
  | 0 => 0
  | n + 1 => nroots p n + if p n = n then 1 else 0
theorem nroots_le (p : Nat → Nat) (n : Nat) : nroots p n ≤ n := by
  induction n with
  | zero => simp [nroots]
  | succ n ih => unfold nroots; split <;> omega
theorem nroots_congr (p q : Nat → Nat) (n : Nat) (h : ∀ i, i < n → p i = q i) : nroots p n = nroots q n := by
  induction n with
  | zero => rfl
  | succ n ih => unfold nroots; rw [ih (fun i hi => h i (by omega)), h n (by omega)]
theorem nroots_link (p : Nat → Nat) (x y n : Nat) (hx : x < n) (px : p x = x) (hne : x ≠ y) : nroots (fun i => if i = x then y else p i) n + 1 = nroots p n := by
  induction n with
  | zero => omega
  | succ n ih =>
    unfold nroots
    by_cases e : n = x
    · subst e
      rw [if_pos rfl, if_neg (fun h => hne h.symm), if_pos px, nroots_congr _ p n (fun i hi => by rw [if_neg (by omega)])]
    · rw [if_neg e]
      have := ih (by omega)
      omega

theorem par_set (l : List Nat) (i v j : Nat) (hi : i < l.length) : par (l.set i v) j = if j = i then v else par l j := by
  unfold par
  rw [List.getElem?_set]
  by_cases e : i = j
  · subst e; simp [hi]
  · rw [if_neg e, if_neg (fun h => e h.symm)]
theorem par_append (l : List Nat) (v j : Nat) : par (l ++ [v]) j = if j = l.length then v else par l j := by
  unfold par
  by_cases h : j < l.length
  · rw [List.getElem?_append_left h, if_neg (by omega)]
  · rw [List.getElem?_append_right (by omega)]
    by_cases e : j = l.length
    · subst e; simp
    · rw [if_neg e, List.getElem?_eq_none (by simp; omega), List.getElem?_eq_none (by omega)]

structure PInv (S : PS) (c d : Nat → Nat) : Prop where
  la : S.above.length = S.nodes.length
  lr : S.ranks.length = S.nodes.length
  lf : S.forms.length = S.nodes.length
  wf : Wf S.nodes
  forest : Forest S.nodes.length (par S.above) c d
  forms : ∀ x, x < S.nodes.length → c x = x → Form S.nodes c x (par S.forms x)
  ranks : ∀ i, i < S.nodes.length → par S.ranks i + nroots (par S.above) S.nodes.length ≤ S.nodes.length

theorem PInv.root {S : PS} {c d : Nat → Nat} (h : PInv S c d) (i : Nat) (hi : i < S.nodes.length) : c i < S.nodes.length ∧ par S.above (c i) = c i ∧ c (c i) = c i := h.forest.top i hi
theorem PInv.rootOf {S : PS} {c d : Nat → Nat} (h : PInv S c d) (x : Nat) (hx : x < S.nodes.length) (e : c x = x) : par S.above x = x := by
  have := (h.root x hx).2.1; rwa [e] at this
theorem PInv.rank_le {S : PS} {c d : Nat → Nat} (h : PInv S c d) (i : Nat) : par S.ranks i ≤ S.nodes.length := by
  by_cases hi : i < S.nodes.length
  · have := h.ranks i hi; omega
  · unfold par; rw [List.getElem?_eq_none (by have := h.lr; omega)]; simp

theorem PInv.put {S : PS} {c d : Nat → Nat} (h : PInv S c d) (x y : Nat) (hx : x < S.nodes.length) (hy : y < S.nodes.length) (cx : c x = x) (cy : c y = y) (hne : x ≠ y) (p : Nd) (hp : S.nodes[par S.forms y]? = some p) :
    PInv (S.put x y (decide (p.kind = 1))) (join c x y) (fun i => if c i = x then d i + d y + 1 else d i) := by
  have px := h.rootOf x hx cx
  have py := h.rootOf y hy cy
  have ha : par (S.put x y (decide (p.kind = 1))).above = fun i => if i = x then y else par S.above i := by
    funext i; exact par_set S.above x y i (by rw [h.la]; exact hx)
  have hn : (S.put x y (decide (p.kind = 1))).nodes = S.nodes := rfl
  refine ⟨by simp [PS.put, h.la], by simp only [PS.put]; split <;> simp [h.lr], by simp only [PS.put]; split <;> simp [h.lf], h.wf, ?_, fun z hz hcz => ?_, fun i hi => ?_⟩
  · rw [ha]; exact h.forest.link x y hx hy px py hne
  · rw [hn] at hz
    have hzx : z ≠ x := by
      rintro rfl
      unfold Go.Proofs.Ytafpbdmggnfdnaa.join at hcz
      rw [if_pos cx] at hcz
      exact hne hcz.symm
    have hcz0 : c z = z := by
      unfold Go.Proofs.Ytafpbdmggnfdnaa.join at hcz
      split at hcz
      · rename_i e; subst hcz; exact absurd (cy.symm.trans e).symm hne
      · exact hcz
    have hjoin : ∀ j, join c x y j = z → c j = z ∨ (z = y ∧ c j = x) := by
      intro j hj
      unfold Go.Proofs.Ytafpbdmggnfdnaa.join at hj
      split at hj
      · rename_i e; exact .inr ⟨hj.symm, e⟩
      · exact .inl hj
    by_cases hzy : z = y
    · subst hzy
      by_cases hk : p.kind = 1
      · have hf : par (S.put x z (decide (p.kind = 1))).forms z = par S.forms x := by
          simp only [PS.put, decide_eq_true hk, if_true]
          rw [par_set _ _ _ _ (by rw [h.lf]; exact hz), if_pos rfl]
        rw [hf, hn]
        have Fx := h.forms x hx cx
        have Fz := h.forms z hz cy
        refine ⟨Fx.lt, ?_, fun j q r hj hcj hq hr => ?_⟩
        · unfold Go.Proofs.Ytafpbdmggnfdnaa.join; rw [if_pos Fx.cls]
        · rcases hjoin j hcj with e | ⟨_, e⟩
          · exact absurd hk (Fz.head j q p hj e hq hp)
          · exact Fx.head j q r hj e hq hr
      · have hf : par (S.put x z (decide (p.kind = 1))).forms z = par S.forms z := by
          simp only [PS.put, decide_eq_false hk]; rfl
        rw [hf, hn]
        have Fz := h.forms z hz cy
        refine ⟨Fz.lt, ?_, fun j q r hj hcj hq hr => ?_⟩
        · unfold Go.Proofs.Ytafpbdmggnfdnaa.join; rw [Fz.cls, if_neg (fun e => hne e.symm)]
        · rw [hp] at hr; injection hr with hr; subst hr; exact hk
    · have hf : par (S.put x y (decide (p.kind = 1))).forms z = par S.forms z := by
        simp only [PS.put]
        split
        · rw [par_set _ _ _ _ (by rw [h.lf]; exact hy), if_neg hzy]
        · rfl
      rw [hf, hn]
      have Fz := h.forms z hz hcz0
      refine ⟨Fz.lt, ?_, fun j q r hj hcj hq hr => ?_⟩
      · unfold Go.Proofs.Ytafpbdmggnfdnaa.join; rw [Fz.cls, if_neg hzx]
      · rcases hjoin j hcj with e | ⟨e, _⟩
        · exact Fz.head j q r hj e hq hr
        · exact absurd e hzy
  · rw [ha, hn]
    have hl := nroots_link (par S.above) x y S.nodes.length hx px hne
    rw [hn] at hi
    have hri := h.ranks i hi
    have hry := h.ranks y hy
    have hr : par (S.put x y (decide (p.kind = 1))).ranks i ≤ par S.ranks i ∨ par (S.put x y (decide (p.kind = 1))).ranks i ≤ par S.ranks y + 1 := by
      simp only [PS.put]
      split
      · rw [par_set _ _ _ _ (by rw [h.lr]; exact hy)]
        split
        · exact .inr (Nat.le_refl _)
        · exact .inl (Nat.le_refl _)
      · exact .inl (Nat.le_refl _)
    omega
theorem PInv.put_roots {S : PS} {c d : Nat → Nat} (h : PInv S c d) (x y : Nat) (v : Bool) (hx : x < S.nodes.length) (cx : c x = x) (hne : x ≠ y) : nroots (par (S.put x y v).above) S.nodes.length + 1 = nroots (par S.above) S.nodes.length := by
  have ha : par (S.put x y v).above = fun i => if i = x then y else par S.above i := by
    funext i; exact par_set S.above x y i (by rw [h.la]; exact hx)
  rw [ha]; exact nroots_link _ x y _ hx (h.rootOf x hx cx) hne

/-- A step: who was put under whom, the form and the rank that the latter had. -/
abbrev Stp := Nat × Nat × Nat × Nat
def PS.undo (S : PS) (s : Stp) : PS := { S with above := S.above.set s.1 s.1, forms := S.forms.set s.2.1 s.2.2.1, ranks := S.ranks.set s.2.1 s.2.2.2 }
def undoAll (S : PS) (l : List Stp) : PS := l.foldr (fun s S => S.undo s) S
theorem undoAll_snoc (S : PS) (l : List Stp) (s : Stp) : undoAll S (l ++ [s]) = undoAll (S.undo s) l := by simp [undoAll]
theorem set_back (l : List Nat) (i v : Nat) : (l.set i v).set i (par l i) = l := by
  rw [List.set_set]
  by_cases h : i < l.length
  · rw [← par_at h, List.set_getElem_self]
  · rw [List.set_eq_of_length_le (by omega)]
theorem set_same (l : List Nat) (i : Nat) : l.set i (par l i) = l := by
  by_cases h : i < l.length
  · rw [← par_at h, List.set_getElem_self]
  · rw [List.set_eq_of_length_le (by omega)]
theorem put_undo (S : PS) (x y : Nat) (v : Bool) (px : par S.above x = x) : (S.put x y v).undo (x, y, par S.forms y, par S.ranks y) = S := by
  obtain ⟨N, A, R, F⟩ := S
  simp only [PS.put, PS.undo] at px ⊢
  have e1 : (A.set x y).set x x = A := by have := set_back A x y; rwa [px] at this
  congr 1
  · split
    · exact set_back _ _ _
    · exact set_same _ _
  · split
    · exact set_back _ _ _
    · exact set_same _ _
end Go.Proofs.Ytafpbdmggnfdnaa
