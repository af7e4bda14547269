/- Plain: what nodes stand for, as trees. A forest is a row of trees. -/
import Derived.Test.YtafpbdmggnfdnaaPlainForest
namespace Go.Proofs.Ytafpbdmggnfdnaa
set_option linter.unusedVariables false

inductive Fo where
  | nil : Fo
  | var (n : Nat) (rest : Fo) : Fo
  | con (kind : Int) (name : ByteArray) (args rest : Fo) : Fo
def Fo.cnt : Fo → Nat
  | .nil => 0
  | .var _ r => 1 + r.cnt
  | .con _ _ a r => 1 + a.cnt + r.cnt
def Fo.len : Fo → Nat
  | .nil => 0
  | .var _ r => r.len + 1
  | .con _ _ _ r => r.len + 1
def Fo.app : Fo → Fo → Fo
  | .nil, b => b
  | .var n r, b => .var n (r.app b)
  | .con k m a r, b => .con k m a (r.app b)
/-- The variables, in the order in which they stand there from the left. -/
def Fo.vars : Fo → List Nat
  | .nil => []
  | .var n r => n :: r.vars
  | .con _ _ a r => a.vars ++ r.vars
def Fo.mapv (f : Nat → Nat) : Fo → Fo
  | .nil => .nil
  | .var n r => .var (f n) (r.mapv f)
  | .con k m a r => .con k m (a.mapv f) (r.mapv f)
theorem Fo.cnt_app (a b : Fo) : (a.app b).cnt = a.cnt + b.cnt := by
  induction a with
  | nil => simp [Fo.app, Fo.cnt]
  | var n r ih => simp only [Fo.app, Fo.cnt, ih]; omega
  | con k m x r _ ih => simp only [Fo.app, Fo.cnt, ih]; omega
theorem Fo.vars_app (a b : Fo) : (a.app b).vars = a.vars ++ b.vars := by
  induction a with
  | nil => rfl
  | var n r ih => simp [Fo.app, Fo.vars, ih]
  | con k m x r _ ih => simp [Fo.app, Fo.vars, ih]
theorem Fo.mapv_app (f : Nat → Nat) (a b : Fo) : (a.app b).mapv f = (a.mapv f).app (b.mapv f) := by
  induction a with
  | nil => rfl
  | var n r ih => simp [Fo.app, Fo.mapv, ih]
  | con k m x r _ ih => simp [Fo.app, Fo.mapv, ih]
theorem Fo.len_le (a : Fo) : a.len ≤ a.cnt := by
  induction a with
  | nil => simp [Fo.len]
  | var n r ih => simp only [Fo.len, Fo.cnt]; omega
  | con k m x r _ ih => simp only [Fo.len, Fo.cnt]; omega
theorem Fo.vars_mapv (f : Nat → Nat) (a : Fo) : (a.mapv f).vars = a.vars.map f := by
  induction a with
  | nil => rfl
  | var n r ih => simp [Fo.mapv, Fo.vars, ih]
  | con k m x r ihx ih => simp [Fo.mapv, Fo.vars, ihx, ih]
theorem Fo.cnt_mapv (f : Nat → Nat) (a : Fo) : (a.mapv f).cnt = a.cnt := by
  induction a with
  | nil => rfl
  | var n r ih => simp [Fo.mapv, Fo.cnt, ih]
  | con k m x r ihx ih => simp [Fo.mapv, Fo.cnt, ihx, ih]
theorem Fo.mapv_mapv (f g : Nat → Nat) (a : Fo) : (a.mapv f).mapv g = a.mapv (fun x => g (f x)) := by
  induction a with
  | nil => rfl
  | var n r ih => simp [Fo.mapv, ih]
  | con k m x r ihx ih => simp [Fo.mapv, ihx, ih]
theorem Fo.mapv_congr {f g : Nat → Nat} (a : Fo) (h : ∀ v ∈ a.vars, f v = g v) : a.mapv f = a.mapv g := by
  induction a with
  | nil => rfl
  | var n r ih => simp only [Fo.mapv]; rw [h n (by simp [Fo.vars]), ih (fun v hv => h v (by simp [Fo.vars, hv]))]
  | con k m x r ihx ih => simp only [Fo.mapv]; rw [ihx (fun v hv => h v (by simp [Fo.vars, hv])), ih (fun v hv => h v (by simp [Fo.vars, hv]))]

/-- These nodes stand for this forest. -/
inductive Stands (N : List Nd) (c F : Nat → Nat) : List Nat → Fo → Prop where
  | nil : Stands N c F [] .nil
  | var {i : Nat} {is : List Nat} {T : Fo} {p : Nd} (hp : N[F (c i)]? = some p) (hk : p.kind = 1) (hr : Stands N c F is T) : Stands N c F (i :: is) (.var (c i) T)
  | con {i : Nat} {is : List Nat} {A T : Fo} {p : Nd} (hp : N[F (c i)]? = some p) (hk : p.kind ≠ 1) (ha : Stands N c F p.args A) (hr : Stands N c F is T) : Stands N c F (i :: is) (.con p.kind p.name A T)

section
variable {N : List Nd} {c F : Nat → Nat}
theorem Stands.len {is : List Nat} {T : Fo} (h : Stands N c F is T) : T.len = is.length := by
  induction h with
  | nil => rfl
  | var _ _ _ ih => simp [Fo.len, ih]
  | con _ _ _ _ _ ih => simp [Fo.len, ih]
theorem Stands.app {is js : List Nat} {T U : Fo} (h : Stands N c F is T) (k : Stands N c F js U) : Stands N c F (is ++ js) (T.app U) := by
  induction h with
  | nil => exact k
  | var hp hk _ ih => exact .var hp hk ih
  | con hp hk ha _ _ ih => exact .con hp hk ha ih
theorem Stands.split {is js : List Nat} {T : Fo} (h : Stands N c F (is ++ js) T) : ∃ A B, T = A.app B ∧ Stands N c F is A ∧ Stands N c F js B := by
  induction is generalizing T with
  | nil => exact ⟨.nil, T, rfl, .nil, h⟩
  | cons i is ih =>
    cases h with
    | var hp hk hr => obtain ⟨A, B, rfl, h1, h2⟩ := ih hr; exact ⟨.var _ A, B, rfl, .var hp hk h1, h2⟩
    | con hp hk ha hr => obtain ⟨A, B, rfl, h1, h2⟩ := ih hr; exact ⟨.con _ _ _ A, B, rfl, .con hp hk ha h1, h2⟩
theorem Stands.unique {is : List Nat} {T U : Fo} (h : Stands N c F is T) (k : Stands N c F is U) : T = U := by
  induction h generalizing U with
  | nil => cases k; rfl
  | var hp hk hr ih =>
    cases k with
    | var hp' hk' hr' => rw [ih hr']
    | con hp' hk' ha' hr' => rw [hp] at hp'; injection hp' with e; subst e; exact absurd hk hk'
  | con hp hk ha hr iha ih =>
    cases k with
    | var hp' hk' hr' => rw [hp] at hp'; injection hp' with e; subst e; exact absurd hk' hk
    | con hp' hk' ha' hr' => rw [hp] at hp'; injection hp' with e; subst e; rw [iha ha', ih hr']
theorem Stands.exists (hw : Wf N) (hc : ∀ i, i < N.length → c i < N.length) (hF : ∀ i, i < N.length → Form N c (c i) (F (c i))) (hac : Acyc N c) : ∀ (is : List Nat), (∀ i ∈ is, i < N.length) → ∃ T, Stands N c F is T := by
  obtain ⟨g, g1, g2⟩ := hac
  have key : ∀ (k : Nat) (is : List Nat), (∀ i ∈ is, i < N.length ∧ g i < k) → ∃ T, Stands N c F is T := by
    intro k
    induction k with
    | zero =>
      intro is h
      rcases is with _ | ⟨i, is⟩
      · exact ⟨.nil, .nil⟩
      · have := (h i List.mem_cons_self).2; omega
    | succ k ih =>
      intro is
      induction is with
      | nil => intro _; exact ⟨.nil, .nil⟩
      | cons i is ihs =>
        intro h
        obtain ⟨T, hT⟩ := ihs (fun j hj => h j (List.mem_cons_of_mem _ hj))
        have hi := h i List.mem_cons_self
        have Fi := hF i hi.1
        obtain ⟨p, hp⟩ : ∃ p, N[F (c i)]? = some p := ⟨_, List.getElem?_eq_getElem Fi.lt⟩
        by_cases hk : p.kind = 1
        · exact ⟨_, .var hp hk hT⟩
        · obtain ⟨A, hA⟩ := ih p.args (fun x hx => by
            have h1 := (hw _ p hp).1 x hx
            have h2 := g2 _ p hp x hx
            have h3 := g1 (F (c i)) i Fi.lt hi.1 Fi.cls
            have := Fi.lt
            exact ⟨by omega, by omega⟩)
          exact ⟨_, .con hp hk hA hT⟩
  intro is h
  obtain ⟨M, hM⟩ : ∃ M, ∀ i ∈ is, g i < M := by
    induction is with
    | nil => exact ⟨0, by simp⟩
    | cons i is ih =>
      obtain ⟨M, hM⟩ := ih (fun j hj => h j (List.mem_cons_of_mem _ hj))
      refine ⟨max M (g i + 1), fun j hj => ?_⟩
      rcases List.mem_cons.1 hj with rfl | hj
      · omega
      · have := hM j hj; omega
  exact key M is (fun i hi => ⟨h i hi, hM i hi⟩)
/-- Every variable of the forest is a root. -/
theorem Stands.roots (hw : Wf N) (hc : ∀ i, i < N.length → c i < N.length ∧ c (c i) = c i) {is : List Nat} {T : Fo} (h : Stands N c F is T) (hi : ∀ i ∈ is, i < N.length) : ∀ v ∈ T.vars, v < N.length ∧ c v = v := by
  induction h with
  | nil => intro v hv; simp [Fo.vars] at hv
  | @var i is T p hp hk hr ih =>
    intro v hv
    simp [Fo.vars] at hv
    rcases hv with rfl | hv
    · exact hc i (hi i List.mem_cons_self)
    · exact ih (fun j hj => hi j (List.mem_cons_of_mem _ hj)) v hv
  | @con i is A T p hp hk ha hr iha ih =>
    intro v hv
    simp [Fo.vars] at hv
    rcases hv with hv | hv
    · refine iha (fun x hx => ?_) v hv
      have h1 := (hw _ p hp).1 x hx
      have h2 := (List.getElem?_eq_some_iff.1 hp).1
      omega
    · exact ih (fun j hj => hi j (List.mem_cons_of_mem _ hj)) v hv
end
/-- Two stores of the same nodes, with the same nodes alike: the same trees, but for the variables' names. -/
theorem Stands.same {N : List Nd} {c F c' F' : Nat → Nat} (hw : Wf N) (hcl : Closed N c) (h12 : Resp N.length c c') (h21 : Resp N.length c' c) (hc : ∀ i, i < N.length → c i < N.length ∧ c (c i) = c i) (hF : ∀ i, i < N.length → Form N c (c i) (F (c i))) (hF' : ∀ i, i < N.length → Form N c' (c' i) (F' (c' i)))
    {is : List Nat} {T : Fo} (h : Stands N c F is T) : ∀ (js : List Nat) (U : Fo), (∀ i ∈ is, i < N.length) → (∀ j ∈ js, j < N.length) → is.length = js.length → (∀ (k i j : Nat), is[k]? = some i → js[k]? = some j → c i = c j) → Stands N c' F' js U → U = T.mapv c' := by
  have args_lt : ∀ {i : Nat} {p : Nd}, N[i]? = some p → ∀ x ∈ p.args, x < N.length := by
    intro i p hp x hx
    have h1 := (hw _ p hp).1 x hx
    have h2 := (List.getElem?_eq_some_iff.1 hp).1
    omega
  -- heads of one class
  have heads : ∀ (i j : Nat) (p q : Nd), i < N.length → j < N.length → c i = c j → N[F (c i)]? = some p → N[F' (c' j)]? = some q → (p.kind = 1 ↔ q.kind = 1) ∧ (p.kind ≠ 1 → Heads p q ∧ ∀ (k x y : Nat), p.args[k]? = some x → q.args[k]? = some y → c x = c y) := by
    intro i j p q hi hj hij hp hq
    have Fi := hF i hi
    have Fj := hF' j hj
    have hcc : c (F' (c' j)) = c i := by rw [h21 (F' (c' j)) j Fj.lt hj Fj.cls, hij]
    have hcc' : c' (F (c i)) = c' j := by rw [h12 (F (c i)) i Fi.lt hi Fi.cls, h12 i j hi hj hij]
    have hpq : p.kind ≠ 1 → q.kind ≠ 1 := fun hk => Fj.head (F (c i)) p q hp hcc' hk hq
    have hqp : q.kind ≠ 1 → p.kind ≠ 1 := fun hk => Fi.head (F' (c' j)) q p hq hcc hk hp
    refine ⟨⟨fun e => ?_, fun e => ?_⟩, fun hk => ?_⟩
    · rcases Decidable.em (q.kind = 1) with h1 | h1
      · exact h1
      · exact absurd e (hqp h1)
    · rcases Decidable.em (p.kind = 1) with h1 | h1
      · exact h1
      · exact absurd e (hpq h1)
    · exact hcl (F (c i)) (F' (c' j)) p q hp hq (Fi.cls.trans hcc.symm) hk (hpq hk)
  induction h with
  | nil =>
    intro js U _ _ hl _ hU
    rcases js with _ | ⟨j, js⟩
    · cases hU; rfl
    · simp at hl
  | @var i is T p hp hk hr ih =>
    intro js U hi hj hl hm hU
    rcases js with _ | ⟨j, js⟩
    · simp at hl
    · have hil := hi i List.mem_cons_self
      have hjl := hj j List.mem_cons_self
      have hij := hm 0 i j rfl rfl
      have hrest := fun U' hU' => ih js U' (fun x hx => hi x (List.mem_cons_of_mem _ hx)) (fun x hx => hj x (List.mem_cons_of_mem _ hx)) (by simpa using hl) (fun k x y hx hy => hm (k + 1) x y (by simpa using hx) (by simpa using hy)) hU'
      cases hU with
      | @var _ _ U' q hq hkq hrU =>
        rw [hrest U' hrU]
        simp only [Fo.mapv]
        congr 1
        have e1 : c' (c i) = c' i := h12 (c i) i (hc i hil).1 hil (hc i hil).2
        rw [e1]; exact (h12 i j hil hjl hij).symm
      | @con _ _ _ _ q hq hkq _ _ => exact absurd ((heads i j p q hil hjl hij hp hq).1.1 hk) hkq
  | @con i is A T p hp hk ha hr iha ih =>
    intro js U hi hj hl hm hU
    rcases js with _ | ⟨j, js⟩
    · simp at hl
    · have hil := hi i List.mem_cons_self
      have hjl := hj j List.mem_cons_self
      have hij := hm 0 i j rfl rfl
      have hrest := fun U' hU' => ih js U' (fun x hx => hi x (List.mem_cons_of_mem _ hx)) (fun x hx => hj x (List.mem_cons_of_mem _ hx)) (by simpa using hl) (fun k x y hx hy => hm (k + 1) x y (by simpa using hx) (by simpa using hy)) hU'
      cases hU with
      | @var _ _ U' q hq hkq hrU => exact absurd ((heads i j p q hil hjl hij hp hq).1.2 hkq) hk
      | @con _ _ A' U' q hq hkq haU hrU =>
        obtain ⟨hh, hargs⟩ := (heads i j p q hil hjl hij hp hq).2 hk
        rw [hrest U' hrU, iha q.args A' (args_lt hp) (args_lt hq) hh.2.2 (fun k x y hx hy => hargs k x y hx hy) haU]
        simp only [Fo.mapv]
        rw [hh.1, hh.2.1]
/-- Nodes of the same classes, one by one, stand for the same. -/
theorem Stands.congr {N : List Nd} {c F : Nat → Nat} {is js : List Nat} {T : Fo} (h : Stands N c F is T) (hl : is.length = js.length) (hm : ∀ (k i j : Nat), is[k]? = some i → js[k]? = some j → c i = c j) : Stands N c F js T := by
  induction h generalizing js with
  | nil =>
    rcases js with _ | ⟨j, js⟩
    · exact .nil
    · simp at hl
  | @var i is T p hp hk hr ih =>
    rcases js with _ | ⟨j, js⟩
    · simp at hl
    · have hij := hm 0 i j rfl rfl
      rw [hij] at hp ⊢
      exact .var hp hk (ih (by simpa using hl) (fun k x y hx hy => hm (k + 1) x y (by simpa using hx) (by simpa using hy)))
  | @con i is A T p hp hk ha hr iha ih =>
    rcases js with _ | ⟨j, js⟩
    · simp at hl
    · have hij := hm 0 i j rfl rfl
      rw [hij] at hp
      exact .con hp hk ha (ih (by simpa using hl) (fun k x y hx hy => hm (k + 1) x y (by simpa using hx) (by simpa using hy)))
end Go.Proofs.Ytafpbdmggnfdnaa
