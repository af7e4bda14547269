/- Plain: nodes, parents that lead to roots, the least way to make two nodes alike. No program in sight. -/
import Derived.KernelRfl
namespace Go.Proofs.Ytafpbdmggnfdnaa
set_option linter.unusedVariables false

/-- A node: kind (1: a variable), name, arguments. -/
structure Nd where
  kind : Int
  name : ByteArray
  args : List Nat

/-- Parents that lead to roots: c is the root of each node, d falls on the way. -/
structure Forest (n : Nat) (par c d : Nat → Nat) : Prop where
  lt : ∀ i, i < n → par i < n
  same : ∀ i, i < n → c (par i) = c i
  root : ∀ i, i < n → par i = i → c i = i
  fall : ∀ i, i < n → par i ≠ i → d (par i) < d i

theorem Forest.top {n : Nat} {par c d : Nat → Nat} (h : Forest n par c d) (i : Nat) (hi : i < n) : c i < n ∧ par (c i) = c i ∧ c (c i) = c i := by
  obtain ⟨k, hk⟩ : ∃ k, d i = k := ⟨_, rfl⟩
  induction k using Nat.strongRecOn generalizing i with
  | ind k ih =>
    by_cases hp : par i = i
    · have := h.root i hi hp
      rw [this]; exact ⟨hi, hp, this⟩
    · have := ih (d (par i)) (by rw [← hk]; exact h.fall i hi hp) (par i) (h.lt i hi) rfl
      rw [h.same i hi] at this
      exact this

/-- A root is put under another one. -/
theorem Forest.link {n : Nat} {par c d : Nat → Nat} (h : Forest n par c d) (x y : Nat) (hx : x < n) (hy : y < n) (px : par x = x) (py : par y = y) (hne : x ≠ y) :
    Forest n (fun i => if i = x then y else par i) (fun i => if c i = x then y else c i) (fun i => if c i = x then d i + d y + 1 else d i) := by
  have cx := h.root x hx px
  have cy := h.root y hy py
  have hyx : ¬ y = x := fun e => hne e.symm
  refine ⟨fun i hi => ?_, fun i hi => ?_, fun i hi hp => ?_, fun i hi hp => ?_⟩
  · split
    · exact hy
    · exact h.lt i hi
  · by_cases e : i = x
    · subst e; simp [cx, cy, hyx]
    · simp [e, h.same i hi]
  · by_cases e : i = x
    · subst e; simp at hp; exact absurd hp hyx
    · simp [e] at hp
      have := h.root i hi hp
      simp [this, e]
  · by_cases e : i = x
    · subst e; simp [cx, cy, hyx]; omega
    · simp [e] at hp ⊢
      have := h.fall i hi hp
      rw [h.same i hi]
      split <;> omega

def Resp (n : Nat) (c e : Nat → Nat) : Prop := ∀ i j, i < n → j < n → c i = c j → e i = e j
def Heads (p q : Nd) : Prop := p.kind = q.kind ∧ p.name = q.name ∧ p.args.length = q.args.length
/-- What is alike has the same heads and alike arguments. -/
def Closed (N : List Nd) (e : Nat → Nat) : Prop :=
  ∀ (i j : Nat) (p q : Nd), N[i]? = some p → N[j]? = some q → e i = e j → p.kind ≠ 1 → q.kind ≠ 1 → Heads p q ∧ ∀ (k a b : Nat), p.args[k]? = some a → q.args[k]? = some b → e a = e b
/-- Nodes are made of earlier ones; a variable of none. -/
def Wf (N : List Nd) : Prop := ∀ (i : Nat) (p : Nd), N[i]? = some p → (∀ a ∈ p.args, a < i) ∧ (p.kind = 1 → p.args = [])
/-- Nothing stands within itself. -/
def Acyc (N : List Nd) (c : Nat → Nat) : Prop := ∃ h : Nat → Nat, Resp N.length c h ∧ ∀ (i : Nat) (p : Nd), N[i]? = some p → ∀ a ∈ p.args, h a < h i

structure Good (N : List Nd) (c0 : Nat → Nat) (a b : Nat) (e : Nat → Nat) : Prop where
  resp : Resp N.length c0 e
  ab : e a = e b
  closed : Closed N e
structure Least (N : List Nd) (c0 : Nat → Nat) (a b : Nat) (c : Nat → Nat) : Prop where
  good : Good N c0 a b c
  least : ∀ e, Good N c0 a b e → Resp N.length c e

/-- A set that has whatever stands within its members. -/
def Down (N : List Nd) (c : Nat → Nat) (D : Nat → Prop) : Prop :=
  (∀ i j, i < N.length → j < N.length → c i = c j → D i → D j) ∧ ∀ (i : Nat) (p : Nd), N[i]? = some p → D i → ∀ a ∈ p.args, D a

structure MInv (N : List Nd) (c0 : Nat → Nat) (a b : Nat) (c : Nat → Nat) (todo : List (Nat × Nat)) : Prop where
  up : ∀ e, Good N c0 a b e → Resp N.length c e ∧ ∀ t ∈ todo, e t.1 = e t.2
  near : ∀ (i j : Nat) (p q : Nd), N[i]? = some p → N[j]? = some q → c i = c j → p.kind ≠ 1 → q.kind ≠ 1 → Heads p q ∧
    ∀ (k x y : Nat), p.args[k]? = some x → q.args[k]? = some y → ∀ f, Resp N.length c f → (∀ t ∈ todo, f t.1 = f t.2) → f x = f y
  base : Resp N.length c0 c
  ab : ∀ f, Resp N.length c f → (∀ t ∈ todo, f t.1 = f t.2) → f a = f b
  lt : ∀ t ∈ todo, t.1 < N.length ∧ t.2 < N.length
  reach : ∀ D, Down N c D → D a → D b → (∀ t ∈ todo, D t.1 ∧ D t.2) ∧ ∀ i j, i < N.length → j < N.length → ¬ D i → c i = c j → c0 i = c0 j


theorem Wf.arg_lt {N : List Nd} (h : Wf N) {i : Nat} {p : Nd} (hi : N[i]? = some p) {k a : Nat} (ha : p.args[k]? = some a) : a < N.length := by
  have h1 := (h i p hi).1 a (List.mem_of_getElem? ha)
  have h2 := (List.getElem?_eq_some_iff.1 hi).1
  omega

theorem MInv.start {N : List Nd} {c0 : Nat → Nat} {a b : Nat} (hw : Wf N) (hc : Closed N c0) (ha : a < N.length) (hb : b < N.length) : MInv N c0 a b c0 [(a, b)] := by
  refine ⟨fun e h => ⟨h.resp, ?_⟩, fun i j p q hi hj hij hp hq => ?_, fun i j _ _ h => h, fun f _ h => h _ List.mem_cons_self, ?_, fun D _ ha hb => ⟨?_, fun _ _ _ _ _ h => h⟩⟩
  · intro t ht; simp at ht; subst ht; exact h.ab
  · obtain ⟨h1, h2⟩ := hc i j p q hi hj hij hp hq
    exact ⟨h1, fun k x y hx hy f hf _ => hf x y (hw.arg_lt hi hx) (hw.arg_lt hj hy) (h2 k x y hx hy)⟩
  · intro t ht; simp at ht; subst ht; exact ⟨ha, hb⟩
  · intro t ht; simp at ht; subst ht; exact ⟨ha, hb⟩

theorem MInv.done {N : List Nd} {c0 c : Nat → Nat} {a b : Nat} (h : MInv N c0 a b c []) : Least N c0 a b c := by
  refine ⟨⟨h.base, h.ab c (fun _ _ _ _ e => e) (by simp), fun i j p q hi hj hij hp hq => ?_⟩, fun e he => (h.up e he).1⟩
  obtain ⟨h1, h2⟩ := h.near i j p q hi hj hij hp hq
  exact ⟨h1, fun k x y hx hy => h2 k x y hx hy c (fun _ _ _ _ e => e) (by simp)⟩

/-- A pair that is alike already is dropped. The order of what is to be done is free: todo' is todo without it. -/
theorem MInv.skip {N : List Nd} {c0 c : Nat → Nat} {a b p q : Nat} {todo todo' : List (Nat × Nat)} (h : MInv N c0 a b c todo) (hs : ∀ t, t ∈ todo ↔ t = (p, q) ∨ t ∈ todo') (hpq : c p = c q) : MInv N c0 a b c todo' := by
  have hm : (p, q) ∈ todo := (hs _).2 (.inl rfl)
  have hl := h.lt _ hm
  have hf : ∀ f, Resp N.length c f → (∀ t ∈ todo', f t.1 = f t.2) → ∀ t ∈ todo, f t.1 = f t.2 := by
    intro f hf h' t ht
    rcases (hs t).1 ht with rfl | ht
    · exact hf p q hl.1 hl.2 hpq
    · exact h' t ht
  exact ⟨fun e he => ⟨(h.up e he).1, fun t ht => (h.up e he).2 t ((hs t).2 (.inr ht))⟩,
    fun i j p q hi hj hij hp hq => ⟨(h.near i j p q hi hj hij hp hq).1, fun k x y hx hy f hf1 hf2 => (h.near i j p q hi hj hij hp hq).2 k x y hx hy f hf1 (hf f hf1 hf2)⟩,
    h.base, fun f hf1 hf2 => h.ab f hf1 (hf f hf1 hf2), fun t ht => h.lt t ((hs t).2 (.inr ht)),
    fun D hD ha hb => ⟨fun t ht => (h.reach D hD ha hb).1 t ((hs t).2 (.inr ht)), (h.reach D hD ha hb).2⟩⟩

/-- The classes x and y are made one. -/
def join (c : Nat → Nat) (x y : Nat) : Nat → Nat := fun i => if c i = x then y else c i
theorem join_same {c : Nat → Nat} {x y i j : Nat} (h : c i = c j) : join c x y i = join c x y j := by unfold join; rw [h]
theorem join_cases {c : Nat → Nat} {x y i j : Nat} (h : join c x y i = join c x y j) : c i = c j ∨ (c i = x ∧ c j = y) ∨ (c i = y ∧ c j = x) := by
  unfold join at h
  split at h <;> split at h <;> simp_all
theorem join_xy {c : Nat → Nat} {x y p q : Nat} (hp : c p = x) (hq : c q = y) : join c x y p = join c x y q := by
  unfold join; rw [hp, hq]; simp
theorem join_resp {n : Nat} {c f : Nat → Nat} {x y p q : Nat} (hp : p < n) (hq : q < n) (cp : c p = x) (cq : c q = y) (hf : Resp n c f) (he : f p = f q) : Resp n (join c x y) f := by
  intro i j hi hj h
  rcases join_cases h with h | ⟨h1, h2⟩ | ⟨h1, h2⟩
  · exact hf i j hi hj h
  · rw [hf i p hi hp (h1.trans cp.symm), he, hf q j hq hj (cq.trans h2.symm)]
  · rw [hf i q hi hq (h1.trans cq.symm), ← he, hf p j hp hj (cp.trans h2.symm)]
theorem resp_join {n : Nat} {c f : Nat → Nat} {x y : Nat} (hf : Resp n (join c x y) f) : Resp n c f := fun i j hi hj h => hf i j hi hj (join_same h)

/-- What heads a class: a node of it, no variable if it has another. -/
structure Form (N : List Nd) (c : Nat → Nat) (x f : Nat) : Prop where
  lt : f < N.length
  cls : c f = x
  head : ∀ (j : Nat) (p q : Nd), N[j]? = some p → c j = x → p.kind ≠ 1 → N[f]? = some q → q.kind ≠ 1

/-- Two classes are made one; what follows of it is to be done. -/
theorem MInv.join {N : List Nd} {c0 c : Nat → Nat} {a b p q x y fx fy : Nat} {P Q : Nd} {todo todo' : List (Nat × Nat)} (hw : Wf N) (h : MInv N c0 a b c todo)
    (hs : ∀ t, t ∈ todo → t = (p, q) ∨ t ∈ todo') (hs' : ∀ t, t ∈ todo' → t ∈ todo ∨ (P.kind ≠ 1 ∧ Q.kind ≠ 1 ∧ ∃ (k u v : Nat), P.args[k]? = some u ∧ Q.args[k]? = some v ∧ t = (u, v)))
    (hpq : (p, q) ∈ todo) (cp : c p = x) (cq : c q = y) (Fx : Form N c x fx) (Fy : Form N c y fy) (hP : N[fx]? = some P) (hQ : N[fy]? = some Q)
    (hh : P.kind ≠ 1 → Q.kind ≠ 1 → Heads P Q ∧ ∀ (k u v : Nat), P.args[k]? = some u → Q.args[k]? = some v → (u, v) ∈ todo') :
    MInv N c0 a b (join c x y) todo' := by
  have hl := h.lt _ hpq
  have hold : ∀ f, Resp N.length (Go.Proofs.Ytafpbdmggnfdnaa.join c x y) f → (∀ t ∈ todo', f t.1 = f t.2) → Resp N.length c f ∧ ∀ t ∈ todo, f t.1 = f t.2 := by
    intro f h1 h2
    refine ⟨resp_join h1, fun t ht => ?_⟩
    rcases hs t ht with rfl | ht
    · exact h1 p q hl.1 hl.2 (join_xy cp cq)
    · exact h2 t ht
  have cross : ∀ (i j : Nat) (I J : Nd), N[i]? = some I → N[j]? = some J → c i = x → c j = y → I.kind ≠ 1 → J.kind ≠ 1 → Heads I J ∧
      ∀ (k u v : Nat), I.args[k]? = some u → J.args[k]? = some v → ∀ f, Resp N.length (Go.Proofs.Ytafpbdmggnfdnaa.join c x y) f → (∀ t ∈ todo', f t.1 = f t.2) → f u = f v := by
    intro i j I J hi hj ci cj hI hJ
    have hPk := Fx.head i I P hi ci hI hP
    have hQk := Fy.head j J Q hj cj hJ hQ
    obtain ⟨h1, h2⟩ := hh hPk hQk
    obtain ⟨e1, e2⟩ := h.near i fx I P hi hP (ci.trans Fx.cls.symm) hI hPk
    obtain ⟨g1, g2⟩ := h.near fy j Q J hQ hj (Fy.cls.trans cj.symm) hQk hJ
    refine ⟨⟨e1.1.trans (h1.1.trans g1.1), e1.2.1.trans (h1.2.1.trans g1.2.1), e1.2.2.trans (h1.2.2.trans g1.2.2)⟩, fun k u v hu hv f f1 f2 => ?_⟩
    have hku := (List.getElem?_eq_some_iff.1 hu).1
    obtain ⟨o1, o2⟩ := hold f f1 f2
    have hm : P.args[k]? = some (P.args[k]'(by have := e1.2.2; omega)) := List.getElem?_eq_getElem _
    have hn : Q.args[k]? = some (Q.args[k]'(by have := e1.2.2; have := h1.2.2; omega)) := List.getElem?_eq_getElem _
    rw [e2 k _ _ hu hm f o1 o2, f2 _ (h2 k _ _ hm hn), g2 k _ _ hn hv f o1 o2]
  refine ⟨fun e he => ?_, fun i j I J hi hj hij hI hJ => ?_, fun i j hi hj hij => join_same (h.base i j hi hj hij), fun f f1 f2 => ?_, fun t ht => ?_, fun D hD ha hb => ?_⟩
  · obtain ⟨u1, u2⟩ := h.up e he
    refine ⟨join_resp hl.1 hl.2 cp cq u1 (u2 _ hpq), fun t ht => ?_⟩
    rcases hs' t ht with ht | ⟨k1, k2, k, u, v, hu, hv, rfl⟩
    · exact u2 t ht
    · have hxy : e fx = e fy := by
        rw [u1 fx p Fx.lt hl.1 (Fx.cls.trans cp.symm), u2 _ hpq, u1 q fy hl.2 Fy.lt (cq.trans Fy.cls.symm)]
      exact (he.closed fx fy P Q hP hQ hxy k1 k2).2 k u v hu hv
  · rcases join_cases hij with e | ⟨e1, e2⟩ | ⟨e1, e2⟩
    · obtain ⟨n1, n2⟩ := h.near i j I J hi hj e hI hJ
      exact ⟨n1, fun k u v hu hv f f1 f2 => n2 k u v hu hv f (hold f f1 f2).1 (hold f f1 f2).2⟩
    · exact cross i j I J hi hj e1 e2 hI hJ
    · obtain ⟨n1, n2⟩ := cross j i J I hj hi e2 e1 hJ hI
      exact ⟨⟨n1.1.symm, n1.2.1.symm, n1.2.2.symm⟩, fun k u v hu hv f f1 f2 => (n2 k v u hv hu f f1 f2).symm⟩
  · exact h.ab f (hold f f1 f2).1 (hold f f1 f2).2
  · rcases hs' t ht with ht | ⟨_, _, k, u, v, hu, hv, rfl⟩
    · exact h.lt t ht
    · exact ⟨hw.arg_lt hP hu, hw.arg_lt hQ hv⟩
  · have hD' : Down N c D := ⟨fun i j hi hj hij => hD.1 i j hi hj (join_same hij), hD.2⟩
    obtain ⟨r1, r2⟩ := h.reach D hD' ha hb
    have hDp := r1 _ hpq
    have hDx : D fx := hD'.1 p fx hl.1 Fx.lt (cp.trans Fx.cls.symm) hDp.1
    have hDy : D fy := hD'.1 q fy hl.2 Fy.lt (cq.trans Fy.cls.symm) hDp.2
    refine ⟨fun t ht => ?_, fun i j hi hj hn hij => ?_⟩
    · rcases hs' t ht with ht | ⟨_, _, k, u, v, hu, hv, rfl⟩
      · exact r1 t ht
      · exact ⟨hD.2 fx P hP hDx u (List.mem_of_getElem? hu), hD.2 fy Q hQ hDy v (List.mem_of_getElem? hv)⟩
    · rcases join_cases hij with e | ⟨e1, e2⟩ | ⟨e1, e2⟩
      · exact r2 i j hi hj hn e
      · exact absurd (hD'.1 p i hl.1 hi (cp.trans e1.symm) hDp.1) hn
      · exact absurd (hD'.1 q i hl.2 hi (cq.trans e1.symm) hDp.2) hn

/-- Heads that differ: nothing makes them alike. -/
theorem MInv.clash {N : List Nd} {c0 c : Nat → Nat} {a b p q x y fx fy : Nat} {P Q : Nd} {todo : List (Nat × Nat)} (h : MInv N c0 a b c todo) (hpq : (p, q) ∈ todo) (cp : c p = x) (cq : c q = y)
    (Fx : Form N c x fx) (Fy : Form N c y fy) (hP : N[fx]? = some P) (hQ : N[fy]? = some Q) (hPk : P.kind ≠ 1) (hQk : Q.kind ≠ 1) (hh : ¬ Heads P Q) (e : Nat → Nat) : ¬ Good N c0 a b e := by
  intro he
  obtain ⟨u1, u2⟩ := h.up e he
  have hl := h.lt _ hpq
  have hxy : e fx = e fy := by
    rw [u1 fx p Fx.lt hl.1 (Fx.cls.trans cp.symm), u2 _ hpq, u1 q fy hl.2 Fy.lt (cq.trans Fy.cls.symm)]
  exact hh (he.closed fx fy P Q hP hQ hxy hPk hQk).1

/-- Behind it nothing stands within itself, if that is so of what stands within the two. -/
theorem acyc_after {N : List Nd} {c0 c : Nat → Nat} {a b : Nat} (hw : Wf N) (h0 : Acyc N c0) (h : MInv N c0 a b c []) (D : Nat → Prop) [DecidablePred D] (hD : Down N c D) (ha : D a) (hb : D b)
    (k : Nat → Nat) (M : Nat) (hk : Resp N.length c k) (hM : ∀ i, k i < M) (hf : ∀ (i : Nat) (p : Nd), N[i]? = some p → D i → ∀ x ∈ p.args, k x < k i) : Acyc N c := by
  obtain ⟨g, g1, g2⟩ := h0
  obtain ⟨_, r⟩ := h.reach D hD ha hb
  refine ⟨fun i => if D i then k i else M + g i, fun i j hi hj hij => ?_, fun i p hp x hx => ?_⟩
  · simp only
    by_cases hd : D i
    · rw [if_pos hd, if_pos (hD.1 i j hi hj hij hd)]; exact hk i j hi hj hij
    · have hd' : ¬ D j := fun h' => hd (hD.1 j i hj hi hij.symm h')
      rw [if_neg hd, if_neg hd', g1 i j hi hj (r i j hi hj hd hij)]
  · simp only
    by_cases hd : D i
    · rw [if_pos hd, if_pos (hD.2 i p hp hd x hx)]; exact hf i p hp hd x hx
    · rw [if_neg hd]
      split
      · have := hM x; omega
      · have := g2 i p hp x hx; omega

/-- All variables. -/
def VarCls (N : List Nd) (c : Nat → Nat) (i : Nat) : Prop := ∀ (j : Nat) (p : Nd), N[j]? = some p → c j = c i → p.kind = 1
/-- No variable of c0 has become anything. -/
def Still (N : List Nd) (c0 e : Nat → Nat) : Prop := ∀ i j, i < N.length → j < N.length → VarCls N c0 i → e i = e j → c0 i = c0 j
def AlikeIn (N : List Nd) (c0 : Nat → Nat) (a b : Nat) : Prop := ∃ e, Good N c0 a b e ∧ Still N c0 e
theorem Still.refl (N : List Nd) (c : Nat → Nat) : Still N c c := fun _ _ _ _ _ h => h
theorem Least.alike_iff {N : List Nd} {c0 c : Nat → Nat} {a b : Nat} (h : Least N c0 a b c) : AlikeIn N c0 a b ↔ Still N c0 c := by
  constructor
  · rintro ⟨e, he, hs⟩ i j hi hj hv hij
    exact hs i j hi hj hv (h.least e he i j hi hj hij)
  · intro hs; exact ⟨c, h.good, hs⟩
theorem Least.same {N : List Nd} {c0 c c' c1 : Nat → Nat} {a b : Nat} (h : Least N c0 a b c) (h' : Least N c1 a b c') (h01 : Resp N.length c0 c1) (h10 : Resp N.length c1 c0) : Resp N.length c c' ∧ Resp N.length c' c := by
  refine ⟨h.least c' ⟨fun i j hi hj hij => h'.good.resp i j hi hj (h01 i j hi hj hij), h'.good.ab, h'.good.closed⟩, h'.least c ⟨fun i j hi hj hij => h.good.resp i j hi hj (h10 i j hi hj hij), h.good.ab, h.good.closed⟩⟩
theorem Good.of {N : List Nd} {c0 c1 e : Nat → Nat} {a b : Nat} (h : Good N c0 a b e) (h10 : Resp N.length c1 c0) : Good N c1 a b e := ⟨fun i j hi hj hij => h.resp i j hi hj (h10 i j hi hj hij), h.ab, h.closed⟩
theorem Acyc.of {N : List Nd} {c c' : Nat → Nat} (h : Acyc N c) (h' : Resp N.length c' c) : Acyc N c' := by
  obtain ⟨g, g1, g2⟩ := h
  exact ⟨g, fun i j hi hj hij => g1 i j hi hj (h' i j hi hj hij), g2⟩
/-- Two that are alike already stand for the same: to make them one makes no cycle. -/
theorem Still.step {N : List Nd} {c0 c : Nat → Nat} {x y : Nat} (h : Still N c0 c) (hb : Resp N.length c0 c) (hx : ∀ (i : Nat) (p : Nd), N[i]? = some p → c i = x → ¬ VarCls N c0 i) (hy : ∀ (i : Nat) (p : Nd), N[i]? = some p → c i = y → ¬ VarCls N c0 i) : Still N c0 (join c x y) := by
  intro i j hi hj hv hij
  rcases join_cases hij with e | ⟨e1, e2⟩ | ⟨e1, e2⟩
  · exact h i j hi hj hv e
  · exact absurd hv (hx i _ (List.getElem?_eq_getElem hi) e1)
  · exact absurd hv (hy i _ (List.getElem?_eq_getElem hi) e1)
end Go.Proofs.Ytafpbdmggnfdnaa
