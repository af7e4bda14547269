/- Part 6 of the proof of UnifyCopies: what follows was kept as these texts: PlainTree, StoreSize, Types, Told, SameTypes. -/
import Derived.Test.YtafpbdmggnfdnaaUnifyCopiesPt1
import Derived.Test.YtafpbdmggnfdnaaUnifyCopiesPt2
import Derived.Test.YtafpbdmggnfdnaaUnifyCopiesPt3
import Derived.Test.YtafpbdmggnfdnaaUnifyCopiesPt4
import Derived.Test.YtafpbdmggnfdnaaUnifyCopiesPt5
import Derived.Deep.RegionHeld3
/- Plain: what nodes stand for, as trees. A forest is a row of trees. -/
namespace Go.Proofs.Ytafpbdmggnfdnaa
set_option linter.unusedVariables false

inductive Fo where
  | nil : Fo
  | var (n : Nat) (rest : Fo) : Fo
  | con (kind : Int) (name : ByteArray) (args rest : Fo) : Fo
def Fo.cnt : Fo → Nat
  | .nil => 0
  | .var _ r => 1 + r.cnt
  | .con _ _ a r => 1 + a.cnt + r.cnt
def Fo.len : Fo → Nat
  | .nil => 0
  | .var _ r => r.len + 1
  | .con _ _ _ r => r.len + 1
def Fo.app : Fo → Fo → Fo
  | .nil, b => b
  | .var n r, b => .var n (r.app b)
  | .con k m a r, b => .con k m a (r.app b)
/-- The variables, in the order in which they stand there from the left. -/
def Fo.vars : Fo → List Nat
  | .nil => []
  | .var n r => n :: r.vars
  | .con _ _ a r => a.vars ++ r.vars
def Fo.mapv (f : Nat → Nat) : Fo → Fo
  | .nil => .nil
  | .var n r => .var (f n) (r.mapv f)
  | .con k m a r => .con k m (a.mapv f) (r.mapv f)
theorem Fo.cnt_app (a b : Fo) : (a.app b).cnt = a.cnt + b.cnt := by
  induction a with
  | nil => simp [Fo.app, Fo.cnt]
  | var n r ih => simp only [Fo.app, Fo.cnt, ih]; omega
  | con k m x r _ ih => simp only [Fo.app, Fo.cnt, ih]; omega
theorem Fo.vars_app (a b : Fo) : (a.app b).vars = a.vars ++ b.vars := by
  induction a with
  | nil => rfl
  | var n r ih => simp [Fo.app, Fo.vars, ih]
  | con k m x r _ ih => simp [Fo.app, Fo.vars, ih]
theorem Fo.mapv_app (f : Nat → Nat) (a b : Fo) : (a.app b).mapv f = (a.mapv f).app (b.mapv f) := by
  induction a with
  | nil => rfl
  | var n r ih => simp [Fo.app, Fo.mapv, ih]
  | con k m x r _ ih => simp [Fo.app, Fo.mapv, ih]
theorem Fo.len_le (a : Fo) : a.len ≤ a.cnt := by
  induction a with
  | nil => simp [Fo.len]
  | var n r ih => simp only [Fo.len, Fo.cnt]; omega
  | con k m x r _ ih => simp only [Fo.len, Fo.cnt]; omega
theorem Fo.vars_mapv (f : Nat → Nat) (a : Fo) : (a.mapv f).vars = a.vars.map f := by
  induction a with
  | nil => rfl
  | var n r ih => simp [Fo.mapv, Fo.vars, ih]
  | con k m x r ihx ih => simp [Fo.mapv, Fo.vars, ihx, ih]
theorem Fo.cnt_mapv (f : Nat → Nat) (a : Fo) : (a.mapv f).cnt = a.cnt := by
  induction a with
  | nil => rfl
  | var n r ih => simp [Fo.mapv, Fo.cnt, ih]
  | con k m x r ihx ih => simp [Fo.mapv, Fo.cnt, ihx, ih]
theorem Fo.mapv_mapv (f g : Nat → Nat) (a : Fo) : (a.mapv f).mapv g = a.mapv (fun x => g (f x)) := by
  induction a with
  | nil => rfl
  | var n r ih => simp [Fo.mapv, ih]
  | con k m x r ihx ih => simp [Fo.mapv, ihx, ih]
theorem Fo.mapv_congr {f g : Nat → Nat} (a : Fo) (h : ∀ v ∈ a.vars, f v = g v) : a.mapv f = a.mapv g := by
  induction a with
  | nil => rfl
  | var n r ih => simp only [Fo.mapv]; rw [h n (by simp [Fo.vars]), ih (fun v hv => h v (by simp [Fo.vars, hv]))]
  | con k m x r ihx ih => simp only [Fo.mapv]; rw [ihx (fun v hv => h v (by simp [Fo.vars, hv])), ih (fun v hv => h v (by simp [Fo.vars, hv]))]

/-- These nodes stand for this forest. -/
inductive Stands (N : List Nd) (c F : Nat → Nat) : List Nat → Fo → Prop where
  | nil : Stands N c F [] .nil
  | var {i : Nat} {is : List Nat} {T : Fo} {p : Nd} (hp : N[F (c i)]? = some p) (hk : p.kind = 1) (hr : Stands N c F is T) : Stands N c F (i :: is) (.var (c i) T)
  | con {i : Nat} {is : List Nat} {A T : Fo} {p : Nd} (hp : N[F (c i)]? = some p) (hk : p.kind ≠ 1) (ha : Stands N c F p.args A) (hr : Stands N c F is T) : Stands N c F (i :: is) (.con p.kind p.name A T)

section
variable {N : List Nd} {c F : Nat → Nat}
theorem Stands.len {is : List Nat} {T : Fo} (h : Stands N c F is T) : T.len = is.length := by
  induction h with
  | nil => rfl
  | var _ _ _ ih => simp [Fo.len, ih]
  | con _ _ _ _ _ ih => simp [Fo.len, ih]
theorem Stands.app {is js : List Nat} {T U : Fo} (h : Stands N c F is T) (k : Stands N c F js U) : Stands N c F (is ++ js) (T.app U) := by
  induction h with
  | nil => exact k
  | var hp hk _ ih => exact .var hp hk ih
  | con hp hk ha _ _ ih => exact .con hp hk ha ih
theorem Stands.split {is js : List Nat} {T : Fo} (h : Stands N c F (is ++ js) T) : ∃ A B, T = A.app B ∧ Stands N c F is A ∧ Stands N c F js B := by
  induction is generalizing T with
  | nil => exact ⟨.nil, T, rfl, .nil, h⟩
  | cons i is ih =>
    cases h with
    | var hp hk hr => obtain ⟨A, B, rfl, h1, h2⟩ := ih hr; exact ⟨.var _ A, B, rfl, .var hp hk h1, h2⟩
    | con hp hk ha hr => obtain ⟨A, B, rfl, h1, h2⟩ := ih hr; exact ⟨.con _ _ _ A, B, rfl, .con hp hk ha h1, h2⟩
theorem Stands.unique {is : List Nat} {T U : Fo} (h : Stands N c F is T) (k : Stands N c F is U) : T = U := by
  induction h generalizing U with
  | nil => cases k; rfl
  | var hp hk hr ih =>
    cases k with
    | var hp' hk' hr' => rw [ih hr']
    | con hp' hk' ha' hr' => rw [hp] at hp'; injection hp' with e; subst e; exact absurd hk hk'
  | con hp hk ha hr iha ih =>
    cases k with
    | var hp' hk' hr' => rw [hp] at hp'; injection hp' with e; subst e; exact absurd hk' hk
    | con hp' hk' ha' hr' => rw [hp] at hp'; injection hp' with e; subst e; rw [iha ha', ih hr']
theorem Stands.exists (hw : Wf N) (hc : ∀ i, i < N.length → c i < N.length) (hF : ∀ i, i < N.length → Form N c (c i) (F (c i))) (hac : Acyc N c) : ∀ (is : List Nat), (∀ i ∈ is, i < N.length) → ∃ T, Stands N c F is T := by
  obtain ⟨g, g1, g2⟩ := hac
  have key : ∀ (k : Nat) (is : List Nat), (∀ i ∈ is, i < N.length ∧ g i < k) → ∃ T, Stands N c F is T := by
    intro k
    induction k with
    | zero =>
      intro is h
      rcases is with _ | ⟨i, is⟩
      · exact ⟨.nil, .nil⟩
      · have := (h i List.mem_cons_self).2; omega
    | succ k ih =>
      intro is
      induction is with
      | nil => intro _; exact ⟨.nil, .nil⟩
      | cons i is ihs =>
        intro h
        obtain ⟨T, hT⟩ := ihs (fun j hj => h j (List.mem_cons_of_mem _ hj))
        have hi := h i List.mem_cons_self
        have Fi := hF i hi.1
        obtain ⟨p, hp⟩ : ∃ p, N[F (c i)]? = some p := ⟨_, List.getElem?_eq_getElem Fi.lt⟩
        by_cases hk : p.kind = 1
        · exact ⟨_, .var hp hk hT⟩
        · obtain ⟨A, hA⟩ := ih p.args (fun x hx => by
            have h1 := (hw _ p hp).1 x hx
            have h2 := g2 _ p hp x hx
            have h3 := g1 (F (c i)) i Fi.lt hi.1 Fi.cls
            have := Fi.lt
            exact ⟨by omega, by omega⟩)
          exact ⟨_, .con hp hk hA hT⟩
  intro is h
  obtain ⟨M, hM⟩ : ∃ M, ∀ i ∈ is, g i < M := by
    induction is with
    | nil => exact ⟨0, by simp⟩
    | cons i is ih =>
      obtain ⟨M, hM⟩ := ih (fun j hj => h j (List.mem_cons_of_mem _ hj))
      refine ⟨max M (g i + 1), fun j hj => ?_⟩
      rcases List.mem_cons.1 hj with rfl | hj
      · omega
      · have := hM j hj; omega
  exact key M is (fun i hi => ⟨h i hi, hM i hi⟩)
/-- Every variable of the forest is a root. -/
theorem Stands.roots (hw : Wf N) (hc : ∀ i, i < N.length → c i < N.length ∧ c (c i) = c i) {is : List Nat} {T : Fo} (h : Stands N c F is T) (hi : ∀ i ∈ is, i < N.length) : ∀ v ∈ T.vars, v < N.length ∧ c v = v := by
  induction h with
  | nil => intro v hv; simp [Fo.vars] at hv
  | @var i is T p hp hk hr ih =>
    intro v hv
    simp [Fo.vars] at hv
    rcases hv with rfl | hv
    · exact hc i (hi i List.mem_cons_self)
    · exact ih (fun j hj => hi j (List.mem_cons_of_mem _ hj)) v hv
  | @con i is A T p hp hk ha hr iha ih =>
    intro v hv
    simp [Fo.vars] at hv
    rcases hv with hv | hv
    · refine iha (fun x hx => ?_) v hv
      have h1 := (hw _ p hp).1 x hx
      have h2 := (List.getElem?_eq_some_iff.1 hp).1
      omega
    · exact ih (fun j hj => hi j (List.mem_cons_of_mem _ hj)) v hv
end
/-- Two stores of the same nodes, with the same nodes alike: the same trees, but for the variables' names. -/
theorem Stands.same {N : List Nd} {c F c' F' : Nat → Nat} (hw : Wf N) (hcl : Closed N c) (h12 : Resp N.length c c') (h21 : Resp N.length c' c) (hc : ∀ i, i < N.length → c i < N.length ∧ c (c i) = c i) (hF : ∀ i, i < N.length → Form N c (c i) (F (c i))) (hF' : ∀ i, i < N.length → Form N c' (c' i) (F' (c' i)))
    {is : List Nat} {T : Fo} (h : Stands N c F is T) : ∀ (js : List Nat) (U : Fo), (∀ i ∈ is, i < N.length) → (∀ j ∈ js, j < N.length) → is.length = js.length → (∀ (k i j : Nat), is[k]? = some i → js[k]? = some j → c i = c j) → Stands N c' F' js U → U = T.mapv c' := by
  have args_lt : ∀ {i : Nat} {p : Nd}, N[i]? = some p → ∀ x ∈ p.args, x < N.length := by
    intro i p hp x hx
    have h1 := (hw _ p hp).1 x hx
    have h2 := (List.getElem?_eq_some_iff.1 hp).1
    omega
  -- heads of one class
  have heads : ∀ (i j : Nat) (p q : Nd), i < N.length → j < N.length → c i = c j → N[F (c i)]? = some p → N[F' (c' j)]? = some q → (p.kind = 1 ↔ q.kind = 1) ∧ (p.kind ≠ 1 → Heads p q ∧ ∀ (k x y : Nat), p.args[k]? = some x → q.args[k]? = some y → c x = c y) := by
    intro i j p q hi hj hij hp hq
    have Fi := hF i hi
    have Fj := hF' j hj
    have hcc : c (F' (c' j)) = c i := by rw [h21 (F' (c' j)) j Fj.lt hj Fj.cls, hij]
    have hcc' : c' (F (c i)) = c' j := by rw [h12 (F (c i)) i Fi.lt hi Fi.cls, h12 i j hi hj hij]
    have hpq : p.kind ≠ 1 → q.kind ≠ 1 := fun hk => Fj.head (F (c i)) p q hp hcc' hk hq
    have hqp : q.kind ≠ 1 → p.kind ≠ 1 := fun hk => Fi.head (F' (c' j)) q p hq hcc hk hp
    refine ⟨⟨fun e => ?_, fun e => ?_⟩, fun hk => ?_⟩
    · rcases Decidable.em (q.kind = 1) with h1 | h1
      · exact h1
      · exact absurd e (hqp h1)
    · rcases Decidable.em (p.kind = 1) with h1 | h1
      · exact h1
      · exact absurd e (hpq h1)
    · exact hcl (F (c i)) (F' (c' j)) p q hp hq (Fi.cls.trans hcc.symm) hk (hpq hk)
  induction h with
  | nil =>
    intro js U _ _ hl _ hU
    rcases js with _ | ⟨j, js⟩
    · cases hU; rfl
    · simp at hl
  | @var i is T p hp hk hr ih =>
    intro js U hi hj hl hm hU
    rcases js with _ | ⟨j, js⟩
    · simp at hl
    · have hil := hi i List.mem_cons_self
      have hjl := hj j List.mem_cons_self
      have hij := hm 0 i j rfl rfl
      have hrest := fun U' hU' => ih js U' (fun x hx => hi x (List.mem_cons_of_mem _ hx)) (fun x hx => hj x (List.mem_cons_of_mem _ hx)) (by simpa using hl) (fun k x y hx hy => hm (k + 1) x y (by simpa using hx) (by simpa using hy)) hU'
      cases hU with
      | @var _ _ U' q hq hkq hrU =>
        rw [hrest U' hrU]
        simp only [Fo.mapv]
        congr 1
        have e1 : c' (c i) = c' i := h12 (c i) i (hc i hil).1 hil (hc i hil).2
        rw [e1]; exact (h12 i j hil hjl hij).symm
      | @con _ _ _ _ q hq hkq _ _ => exact absurd ((heads i j p q hil hjl hij hp hq).1.1 hk) hkq
  | @con i is A T p hp hk ha hr iha ih =>
    intro js U hi hj hl hm hU
    rcases js with _ | ⟨j, js⟩
    · simp at hl
    · have hil := hi i List.mem_cons_self
      have hjl := hj j List.mem_cons_self
      have hij := hm 0 i j rfl rfl
      have hrest := fun U' hU' => ih js U' (fun x hx => hi x (List.mem_cons_of_mem _ hx)) (fun x hx => hj x (List.mem_cons_of_mem _ hx)) (by simpa using hl) (fun k x y hx hy => hm (k + 1) x y (by simpa using hx) (by simpa using hy)) hU'
      cases hU with
      | @var _ _ U' q hq hkq hrU => exact absurd ((heads i j p q hil hjl hij hp hq).1.2 hkq) hk
      | @con _ _ A' U' q hq hkq haU hrU =>
        obtain ⟨hh, hargs⟩ := (heads i j p q hil hjl hij hp hq).2 hk
        rw [hrest U' hrU, iha q.args A' (args_lt hp) (args_lt hq) hh.2.2 (fun k x y hx hy => hargs k x y hx hy) haU]
        simp only [Fo.mapv]
        rw [hh.1, hh.2.1]
/-- Nodes of the same classes, one by one, stand for the same. -/
theorem Stands.congr {N : List Nd} {c F : Nat → Nat} {is js : List Nat} {T : Fo} (h : Stands N c F is T) (hl : is.length = js.length) (hm : ∀ (k i j : Nat), is[k]? = some i → js[k]? = some j → c i = c j) : Stands N c F js T := by
  induction h generalizing js with
  | nil =>
    rcases js with _ | ⟨j, js⟩
    · exact .nil
    · simp at hl
  | @var i is T p hp hk hr ih =>
    rcases js with _ | ⟨j, js⟩
    · simp at hl
    · have hij := hm 0 i j rfl rfl
      rw [hij] at hp ⊢
      exact .var hp hk (ih (by simpa using hl) (fun k x y hx hy => hm (k + 1) x y (by simpa using hx) (by simpa using hy)))
  | @con i is A T p hp hk ha hr iha ih =>
    rcases js with _ | ⟨j, js⟩
    · simp at hl
    · have hij := hm 0 i j rfl rfl
      rw [hij] at hp
      exact .con hp hk ha (ih (by simpa using hl) (fun k x y hx hy => hm (k + 1) x y (by simpa using hx) (by simpa using hy)))
end Go.Proofs.Ytafpbdmggnfdnaa

/- The program's store: Size. -/
namespace Go.Proofs.Ytafpbdmggnfdnaa
open Go.RowKit
set_option linter.unusedVariables false

def capped (n : Nat) : Nat := if n ≤ 300 then n else 301
theorem Ok.forms {S : PS} {c d : Nat → Nat} (h : Ok S c d) (i : Nat) (hi : i < S.nodes.length) : Form S.nodes c (c i) (par S.forms (c i)) := h.inv.forms (c i) (h.inv.root i hi).1 (h.inv.root i hi).2.2
theorem Ok.roots {S : PS} {c d : Nat → Nat} (h : Ok S c d) (i : Nat) (hi : i < S.nodes.length) : c i < S.nodes.length ∧ c (c i) = c i := ⟨(h.inv.root i hi).1, (h.inv.root i hi).2.2⟩
theorem Ok.stands {S : PS} {c d : Nat → Nat} (h : Ok S c d) (is : List Nat) (hi : ∀ i ∈ is, i < S.nodes.length) : ∃ T, Stands S.nodes c (par S.forms) is T := Stands.exists h.inv.wf (fun i hi => (h.roots i hi).1) h.forms h.acyc is hi
/-- A node's tree: its form's head over its form's arguments. -/
theorem Stands.one {N : List Nd} {c F : Nat → Nat} (hw : Wf N) {x : Nat} {B : Fo} {p : Nd} (h : Stands N c F [x] B) (hp : N[F (c x)]? = some p) : ∃ A, Stands N c F p.args A ∧ B.cnt = 1 + A.cnt := by
  cases h with
  | var hp' hk hr =>
    rw [hp] at hp'; injection hp' with e; subst e
    cases hr
    rw [(hw _ _ hp).2 hk]
    exact ⟨.nil, .nil, rfl⟩
  | con hp' hk ha hr =>
    rw [hp] at hp'; injection hp' with e; subst e
    cases hr
    exact ⟨_, ha, by simp [Fo.cnt]⟩
theorem nats_append (a b : List Nat) : nats (a ++ b) = nats a ++ nats b := by simp [nats]
theorem nats_length (a : List Nat) : (nats a).length = a.length := by simp [nats]
theorem nats_one (l : List Nat) : ∀ u ∈ nats l, u.oneCell' = true := by
  intro u hu
  obtain ⟨n, _, rfl⟩ := List.mem_map.1 hu
  rfl
theorem nats_cells {w : World} {a : Addr} {xs : List Nat} (h : Nats w (some a) xs) : ∀ (j : Nat) (u : Value), (nats xs)[j]? = some u → w.cell? (a.add j) = some u := by
  intro j u hu
  unfold nats at hu
  rw [List.getElem?_map] at hu
  obtain ⟨x, hx, hxu⟩ := Option.map_eq_some_iff.1 hu
  have hne : cast xs ≠ [] := by
    intro e
    unfold cast at e
    have : xs = [] := by simpa using e
    rw [this] at hx; simp at hx
  obtain ⟨b, off, e, hb, hcc⟩ := h hne
  obtain rfl : a = ⟨b, off, none⟩ := by injection e
  rw [addr_add', ← hxu]
  exact hcc j x (by unfold cast; rw [List.getElem?_map, hx]; rfl)

/-- Nothing is appended: the row stays as it is, whatever the capacity of the nil slice. -/
theorem run_append_nothing {P : Program} (w : World) {base : Nat} {t ty e : TypeId} {i : TypeInfo} {size : Nat} (ht : P.underlying t = some (.slice e)) (hi : P.info? e = some i) {v : Value} {n : Nat} {xs : List Value} (hown : w.ownsRow base e size v n xs) (cap : Nat) : (Builtin.append_ #[t, t] ty #[v, .slice none 0 cap]).run P w = .ok v w := by
  rcases hown.2 with ⟨rfl, rfl⟩ | ⟨g, k, cur, rfl, _, _, hle, _⟩
  · simp [Builtin.append_, run_underlying ht, sizeOf, typeInfo, hi, Builtin.lenOf, Builtin.firstCells]
  · simp [Builtin.append_, run_underlying ht, sizeOf, typeInfo, hi, Builtin.lenOf, Builtin.firstCells, hle, storeCells]
theorem wpList_append_nothing {P : Program} {w : World} {ops : Array Oper} {rest : List Oper} {o : Oper} {a : Act} {Q : Exit → Act → World → Prop} (hgd : o.guard = none) (s x : Operand) (t : TypeId) (ho : o.op = .call { callee := .builtin .append, args := #[s, x], argTypes := #[t, t] })
    (base : Nat) (e : TypeId) (i : TypeInfo) (size : Nat) (ht : P.underlying t = some (.slice e)) (hi : P.info? e = some i) (v : Value) (n : Nat) (xs : List Value) (hs : a.eval s = v) (hown : w.ownsRow base e size v n xs) (cap : Nat) (hx : a.eval x = .slice none 0 cap)
    (h : wpList P ops Q rest (a.put o.dst v) w) : wpList P ops Q (o :: rest) a w := by
  refine wpList_plain hgd fun K hK => ?_
  have hrun := run_append_nothing (P := P) w (ty := o.type) ht hi hown cap
  unfold Oper.wp
  simp [execOp, ho, resolve, invoke, builtin, hs, hx, hrun, Result.andThen]
  exact hK _ _ h

structure SRel (w : World) (S : PS) (c : Nat → Nat) (total : Nat) (vw : Value) (k : Nat) (todo : List Nat) (wr : World) : Prop where
  below : Below w.heap.size w wr
  own : wr.ownsRow w.heap.size 3 1 vw todo.length (nats todo)
  tree : ∃ U, Stands S.nodes c (par S.forms) todo U ∧ k + U.cnt = total
  lt : ∀ i ∈ todo, i < S.nodes.length
  few : k + todo.length ≤ 300
set_option maxRecDepth 100000 in
set_option maxHeartbeats 4000000 in
theorem size_any {w : World} {base : Nat} {L : Lay} {S : PS} {c d : Nat → Nat} (h : St w base L S) (hi : Ok S c d) (i : Nat) (hin : i < S.nodes.length) (T : Fo) (hT : Stands S.nodes c (par S.forms) [i] T) :
    Calls Try.prog 13 #[.pointer (some ⟨L.g, 0, none⟩), .int .i64 (i : Int)] w fun e w' => e = .returned (.int .i64 (capped T.cnt : Int)) ∧ Below w.heap.size w w' := by
  obtain ⟨i1, ki, kz0, kz1, kz2⟩ := info_parts intInfo
  have Ki := hide ki; have Kz0 := hide kz0; have Kz1 := hide kz1; have Kz2 := hide kz2
  clear ki kz0 kz1 kz2
  have hb1 : Below w.heap.size w (w.alloc (.cells #[.int .i64 (i : Int)] 3)) := (Below.refl _ _).alloc (Nat.le_refl _) _
  have hb2 : Below w.heap.size w ((w.alloc (.cells #[.int .i64 (i : Int)] 3)).alloc (.cells #[.int .i64 (i : Int)] 3)) := hb1.alloc (by simp) _
  have HK := hide (known_any (h.later hb1) (some ⟨w.heap.size, 0, none⟩) 1 [(i : Int)] (ints_one w i _) (by simp))
  rw [show allIn S.nodes.length [(i : Int)] = true by simp [allIn]; omega] at HK
  have HR : Hid (SRel w S c T.cnt (.slice (some ⟨w.heap.size + 1, 0, none⟩) 1 1) 0 [i] ((w.alloc (.cells #[.int .i64 (i : Int)] 3)).alloc (.cells #[.int .i64 (i : Int)] 3))) := by
    refine hide ⟨hb2, ?_, ⟨T, hT, by omega⟩, by simpa using hin, by simp⟩
    have := World.ownsRow_lit (base := w.heap.size) (e := 3) (size := 1) (w.alloc (.cells #[.int .i64 (i : Int)] 3)) #[.int .i64 (i : Int)] 1 (by simp) (by simp [maxLen]) rfl
    rw [World.size_alloc] at this
    exact this
  have Hi := hide hi
  have hm := h.many
  have H0 := hide h
  clear h hi hb1 hb2 hT
  go_enter Try.func13, Try.ntmps13
  go_wp2_with fail
  refine HK.out.mono ?_
  rintro e w1 ⟨rfl, rfl⟩
  go_wp2
  go_loopw [5, 6] (fun vk vw wr => ∃ (k : Nat) (todo : List Nat), vk = .int .i64 k ∧ SRel w S c T.cnt vw k todo wr) (fun vk _ _ => 301 - (intOf vk).toNat)
  case atStart => exact ⟨0, [i], rfl, HR.out⟩
  case round =>
    obtain ⟨k, todo, rfl, R⟩ := hrel
    clear HR
    rcases List.eq_nil_or_concat todo with rfl | ⟨todo, x, rfl⟩
    · obtain ⟨A, cap, rfl, -, -⟩ := own_len R.own
      go_wp2
      go_ret
      obtain ⟨U, hU, hk⟩ := R.tree
      cases hU
      have hf := R.few
      simp only [Fo.cnt, List.length_nil] at hk hf
      exact ⟨ret_int (by unfold capped; rw [if_pos (by omega)]; omega), R.below⟩
    · simp only [List.concat_eq_append] at R
      have hlen : (todo ++ [x]).length = todo.length + 1 := by simp
      have hown := R.own
      rw [hlen] at hown
      obtain ⟨g, cap, rfl, hcap⟩ := own_pos hown (by omega)
      have t0 := own_nat hown rfl todo.length (by simp)
      rw [List.getElem_concat_length rfl] at t0
      have hpop := hide (own_pop hown)
      rw [nats_snoc, Nat.mul_one, List.take_left' (nats_length todo)] at hpop
      have hgl := (hown.lt g rfl).2
      have hfew := R.few
      rw [hlen] at hfew
      have hxn : x < S.nodes.length := R.lt x (by simp)
      have Fx := Hi.out.forms x hxn
      obtain ⟨P, hP⟩ : ∃ P, S.nodes[par S.forms (c x)]? = some P := ⟨_, List.getElem?_eq_getElem Fx.lt⟩
      have hPl := H0.out.few _ _ hP
      obtain ⟨U, hU, hkU⟩ := R.tree
      obtain ⟨A, B, rfl, hA, hB⟩ := hU.split
      obtain ⟨A', hA', hcnt⟩ := hB.one Hi.out.inv.wf hP
      rw [Fo.cnt_app, hcnt] at hkU
      have hst := H0.out.later R.below
      have HFm := hide (form_any hst Hi.out.inv.forest x hxn P hP)
      have HR := hide R; have HP := hide hP; have HA := hide hA; have HA' := hide hA'; have HkU := hide hkU
      have hl1 := hA.len; have hl2 := hA'.len; have hl3 := A.len_le; have hl4 := A'.len_le
      clear R hP hU hB hown hst Fx hA hA' hkU hcnt
      have fl := nd_args
      have hsl2 := fun W => run_slice_h (P := Try.prog) W 30 (some ⟨g, 0, none⟩) (todo.length + 1) cap Try.underlying30 .i64 ((todo.length : Int)) (by omega) (by omega)
      go_wp2_with fail
      refine HFm.out.mono ?_
      rintro e W1 ⟨ax, hax, rfl, hb1⟩
      have Hbw := hide (HR.out.below.trans (hb1.mono HR.out.below.size))
      have Hpop1 := hide (own_keep hpop.out (fun b hb => hb1.block b (hpop.out.lt b hb).2))
      have Hax := hide hax
      have Hst1 := hide (H0.out.later Hbw.out)
      clear hb1 hax HFm hpop t0
      by_cases hbig : 300 < k + 1 + todo.length + P.args.length
      · have hb41 : decide ((300 : Int) < (k : Int) + 1 + (todo.length : Int) + (P.args.length : Int)) = true := by simp; omega
        go_wp2
        go_ret
        have := HkU.out
        exact ⟨ret_int (by unfold capped; rw [if_neg (by omega)]; rfl), Hbw.out⟩
      · have hb41 : decide ((300 : Int) < (k : Int) + 1 + (todo.length : Int) + (P.args.length : Int)) = false := by simp; omega
        have hargs := (Hst1.out.args _ P ax HP.out Hax.out).1
        have hlt' : ∀ y ∈ todo ++ P.args, y < S.nodes.length := by
          intro y hy
          rcases List.mem_append.1 hy with hy | hy
          · exact HR.out.lt y (List.mem_append_left _ hy)
          · obtain ⟨j, hj⟩ := List.mem_iff_getElem?.1 hy
            exact Hi.out.inv.wf.arg_lt HP.out hj
        have Hlt' := hide hlt'
        have Htree : Hid (∃ U, Stands S.nodes c (par S.forms) (todo ++ P.args) U ∧ k + 1 + U.cnt = T.cnt) := hide ⟨A.app A', HA.out.app HA'.out, by rw [Fo.cnt_app]; have := HkU.out; omega⟩
        have hz : w.heap.size ≤ W1.heap.size := Hbw.out.size
        obtain ⟨Ad, cx⟩ := ax
        simp only at hargs ⊢
        rcases Ad with _ | ad
        · have hnil : P.args = [] := by
            rcases hq : P.args with _ | ⟨y, l⟩
            · rfl
            · rw [hq] at hargs
              obtain ⟨_, _, e, _⟩ := hargs (by simp [cast])
              cases e
          have Hnil := hide hnil
          clear hargs hlt'
          rw [hnil] at hbig hb41 ⊢
          clear hnil
          go_wp2_with (at_builtin; refine wpList_append_nothing rfl (.tmp 42) (.tmp 43) 30 rfl w.heap.size 3 i1 1 Try.underlying30 Ki.out (.slice (some ⟨g, 0, none⟩) todo.length cap) todo.length (nats todo) rfl Hpop1.out cx rfl ?_)
          go_roundw
          case measure => simp [intOf]; omega
          case rel =>
            have ht := Htree.out; have hl := Hlt'.out
            rw [Hnil.out, List.append_nil] at ht hl
            exact ⟨k + 1, todo, by go_num, Hbw.out, Hpop1.out, ht, hl, by omega⟩
        · have HC := hide (nats_cells hargs)
          have H1 := hide (nats_one P.args)
          clear hargs hlt'
          go_wp2_with (at_builtin; refine wpList_append_own _ rfl (.tmp 42) (.tmp 43) 30 rfl w.heap.size 3 i1 (.int .i64 0) 1 8 Try.underlying30 Ki.out Kz0.out Kz1.out Kz2.out rfl (by decide) (.slice (some ⟨g, 0, none⟩) todo.length cap) todo.length (nats todo) rfl Hpop1.out ad P.args.length cx (nats P.args) rfl (by rw [nats_length]; omega) HC.out H1.out (by simp only [maxLen]; omega) (by omega) hz ?_; intro v2 W2 own2 grow2 nil2; clear nil2)
          go_roundw
          case measure => simp [intOf]; omega
          case rel =>
            refine ⟨k + 1, todo ++ P.args, by go_num, Hbw.out.grown grow2 hz (fun j e1 => (Hpop1.out.lt j e1).1), ?_, Htree.out, Hlt'.out, by rw [List.length_append]; omega⟩
            rw [nats_append, List.length_append]
            exact own2

set_option maxHeartbeats 1000000 in
theorem size_no {w : World} {base : Nat} {L : Lay} {S : PS} (h : St w base L S) (i : Int) (hk : allIn S.nodes.length [i] = false) :
    Calls Try.prog 13 #[.pointer (some ⟨L.g, 0, none⟩), .int .i64 i] w fun e w' => e = .returned (.int .i64 0) ∧ Below w.heap.size w w' := by
  have hb1 : Below w.heap.size w (w.alloc (.cells #[.int .i64 i] 3)) := (Below.refl _ _).alloc (Nat.le_refl _) _
  have HK := hide (known_any (h.later hb1) (some ⟨w.heap.size, 0, none⟩) 1 [i] (ints_one w i _) (by simp))
  rw [hk] at HK
  clear hk hb1
  go_enter Try.func13, Try.ntmps13
  go_wp2_with fail
  refine HK.out.mono ?_
  rintro e w1 ⟨rfl, rfl⟩
  go_wp2
  go_ret
  exact ⟨rfl, (Below.refl _ _).alloc (Nat.le_refl _) _⟩
end Go.Proofs.Ytafpbdmggnfdnaa

/- Types in memory: what a slice of api.Type reads as; SameType, SameTypes of the same. -/
namespace Go.Proofs.Ytafpbdmggnfdnaa
open Go.RowKit
set_option linter.unusedVariables false

/-- These cells, with what lies behind them in blocks of which P is true, are this forest. -/
def FoCells (w : World) (P : Nat → Prop) : Fo → List Value → Prop
  | .nil, cs => cs = []
  | .var n r, cs => ∃ A c rest, cs = .int .i64 1 :: .int .i64 (n : Int) :: .string ByteArray.empty :: .slice A 0 c :: rest ∧ FoCells w P r rest
  | .con k m a r, cs => ∃ A c rest, cs = .int .i64 k :: .int .i64 0 :: .string m :: .slice A a.len c :: rest ∧
      (a = .nil ∨ ∃ b off cs', A = some ⟨b, off, none⟩ ∧ P b ∧ FoCells w P a cs' ∧ ∀ (j : Nat) (u : Value), cs'[j]? = some u → w.cell? ⟨b, off + j, none⟩ = some u) ∧ FoCells w P r rest
/-- The slice with this address is this forest. -/
def FoAt (w : World) (P : Nat → Prop) (A : Option Addr) (F : Fo) : Prop :=
  F = .nil ∨ ∃ b off cs, A = some ⟨b, off, none⟩ ∧ P b ∧ FoCells w P F cs ∧ ∀ (j : Nat) (u : Value), cs[j]? = some u → w.cell? ⟨b, off + j, none⟩ = some u
section
variable {w w' : World} {P P' : Nat → Prop}
theorem FoCells.length (F : Fo) : ∀ {cs : List Value}, FoCells w P F cs → cs.length = F.len * 4 := by
  induction F with
  | nil => rintro cs rfl; rfl
  | var n r ih => rintro cs ⟨A, c, rest, rfl, h⟩; simp [Fo.len, ih h]; omega
  | con k m a r _ ih => rintro cs ⟨A, c, rest, rfl, _, h⟩; simp [Fo.len, ih h]; omega
theorem FoCells.one (F : Fo) : ∀ {cs : List Value}, FoCells w P F cs → ∀ u ∈ cs, u.oneCell' = true := by
  induction F with
  | nil => rintro cs rfl u hu; simp at hu
  | var n r ih =>
    rintro cs ⟨A, c, rest, rfl, h⟩ u hu
    simp only [List.mem_cons] at hu
    rcases hu with rfl | rfl | rfl | rfl | hu
    · rfl
    · rfl
    · rfl
    · rfl
    · exact ih h u hu
  | con k m a r _ ih =>
    rintro cs ⟨A, c, rest, rfl, _, h⟩ u hu
    simp only [List.mem_cons] at hu
    rcases hu with rfl | rfl | rfl | rfl | hu
    · rfl
    · rfl
    · rfl
    · rfl
    · exact ih h u hu
theorem FoCells.keep (F : Fo) : ∀ {cs : List Value}, FoCells w P F cs → (∀ b, P b → P' b) → (∀ p : Addr, P p.block → w'.cell? p = w.cell? p) → FoCells w' P' F cs := by
  induction F with
  | nil => intro cs h _ _; exact h
  | var n r ih => rintro cs ⟨A, c, rest, rfl, h⟩ hB hk; exact ⟨A, c, rest, rfl, ih h hB hk⟩
  | con k m a r iha ih =>
    rintro cs ⟨A, c, rest, rfl, ha, h⟩ hB hk
    refine ⟨A, c, rest, rfl, ?_, ih h hB hk⟩
    rcases ha with ha | ⟨b, off, cs', e, hb, hc, hcell⟩
    · exact .inl ha
    · exact .inr ⟨b, off, cs', e, hB b hb, iha hc hB hk, fun j u hu => (hk ⟨b, off + j, none⟩ hb).trans (hcell j u hu)⟩
theorem FoCells.app (F : Fo) {G : Fo} {ds : List Value} (hg : FoCells w P G ds) : ∀ {cs : List Value}, FoCells w P F cs → FoCells w P (F.app G) (cs ++ ds) := by
  induction F with
  | nil => rintro cs rfl; simpa [Fo.app] using hg
  | var n r ih => rintro cs ⟨A, c, rest, rfl, h⟩; exact ⟨A, c, rest ++ ds, rfl, ih h⟩
  | con k m a r _ ih => rintro cs ⟨A, c, rest, rfl, ha, h⟩; exact ⟨A, c, rest ++ ds, rfl, ha, ih h⟩
theorem FoAt.keep {A : Option Addr} {F : Fo} (h : FoAt w P A F) (hB : ∀ b, P b → P' b) (hk : ∀ p : Addr, P p.block → w'.cell? p = w.cell? p) : FoAt w' P' A F := by
  rcases h with h | ⟨b, off, cs, e, hb, hc, hcell⟩
  · exact .inl h
  · exact .inr ⟨b, off, cs, e, hB b hb, FoCells.keep F hc hB hk, fun j u hu => (hk ⟨b, off + j, none⟩ hb).trans (hcell j u hu)⟩
theorem fo_of_own {base : Nat} {e : TypeId} {v : Value} {F : Fo} {cs : List Value} (h : w.ownsRow base e 4 v F.len cs) (hc : FoCells w P F cs) (hP : ∀ b, v.ownBlock = some b → P b) : ∃ A c, v = .slice A F.len c ∧ FoAt w P A F := by
  rcases h.2 with ⟨hv, hn⟩ | ⟨g, cap, cur, hv, _, hh, _⟩
  · refine ⟨none, 0, by rw [hn]; exact hv, .inl ?_⟩
    cases F with
    | nil => rfl
    | var n r => simp [Fo.len] at hn
    | con k m a r => simp [Fo.len] at hn
  · refine ⟨_, cap, hv, .inr ⟨g, 0, cs, rfl, hP g (by rw [hv]; rfl), hc, fun j u hu => ?_⟩⟩
    have := h.cells (g := g) (by rw [hv]; rfl) j u hu
    rwa [addr_add'] at this
end
theorem tyInfo : (Try.prog.info? 48).map (fun i => (i.zero, i.size, i.bytes)) = some (some (.agg #[.int .i64 0, .int .i64 0, .string ByteArray.empty, .slice none 0 0]), 4, 56) := by kernel_rfl
end Go.Proofs.Ytafpbdmggnfdnaa

/- The program's store: told. -/
namespace Go.Proofs.Ytafpbdmggnfdnaa
open Go.RowKit Go.Maps
set_option linter.unusedVariables false

/-- A value of api.Type that is this tree; all behind it is new. -/
def ToldPost (w : World) (F : Fo) (e : Ending) (w' : World) : Prop :=
  ∃ (kd nu : Int) (s : ByteArray) (A : Option Addr) (n c : Nat), e = .returned (.agg #[.int .i64 kd, .int .i64 nu, .string s, .slice A n c]) ∧ FoCells w' (fun k => w.heap.size ≤ k ∧ k < w'.heap.size) F [.int .i64 kd, .int .i64 nu, .string s, .slice A n c] ∧ Below w.heap.size w w'
theorem four_cells {W : World} {g : Nat} {u0 u1 u2 u3 : Value} {t : TypeId} (h : W.heap[g]? = some (.cells #[u0, u1, u2, u3] t (0, 0))) :
    W.cell? ⟨g, 0, none⟩ = some u0 ∧ W.cell? ⟨g, 1, none⟩ = some u1 ∧ W.cell? ⟨g, 2, none⟩ = some u2 ∧ W.cell? ⟨g, 3, none⟩ = some u3 ∧ ∀ k, W.frozen? ⟨g, k, none⟩ = false := by
  refine ⟨?_, ?_, ?_, ?_, fun k => by simp [World.frozen?, h]⟩ <;> (rw [cell_of_row _ _ _ _ _ _ h]; rfl)
theorem three_cells {W : World} {g : Nat} {u0 u1 u2 : Value} {t : TypeId} (h : W.heap[g]? = some (.cells #[u0, u1, u2] t (0, 0))) :
    W.cell? ⟨g, 0, none⟩ = some u0 ∧ W.cell? ⟨g, 1, none⟩ = some u1 ∧ W.cell? ⟨g, 2, none⟩ = some u2 := by
  refine ⟨?_, ?_, ?_⟩ <;> (rw [cell_of_row _ _ _ _ _ _ h]; rfl)
theorem set4_below {w W : World} {B g : Nat} (h : Below B w W) (hg : B ≤ g) (u0 u1 u2 u3 : Value) : Below B w (set4 W g u0 u1 u2 u3) :=
  (((h.setCell (p := ⟨g, 0, none⟩) hg _).setCell (p := ⟨g, 1, none⟩) hg _).setCell (p := ⟨g, 2, none⟩) hg _).setCell (p := ⟨g, 3, none⟩) hg _
theorem set4_size (W : World) (g : Nat) (u0 u1 u2 u3 : Value) : (set4 W g u0 u1 u2 u3).heap.size = W.heap.size := by simp [set4, World.setCell]
theorem set4_other (W : World) (g : Nat) (u0 u1 u2 u3 : Value) (k : Nat) (h : k ≠ g) : (set4 W g u0 u1 u2 u3).heap[k]? = W.heap[k]? := by
  unfold set4
  rw [Below.heap_setCell _ _ _ k h, Below.heap_setCell _ _ _ k h, Below.heap_setCell _ _ _ k h, Below.heap_setCell _ _ _ k h]

/-- At the head of a round over the arguments. -/
structure TRel (W2 : World) (S : PS) (c num : Nat → Nat) (args : List Nat) (A : Fo) (va : Value) (j : Nat) (wr : World) : Prop where
  below : Below W2.heap.size W2 wr
  parts : ∃ Aj Rj cs, A = Aj.app Rj ∧ Stands S.nodes c (par S.forms) (args.take j) Aj ∧ Stands S.nodes c (par S.forms) (args.drop j) Rj ∧ wr.ownsRow W2.heap.size 48 4 va j cs ∧
    FoCells wr (fun b => W2.heap.size ≤ b ∧ b < wr.heap.size ∧ va.ownBlock ≠ some b) (Aj.mapv num) cs
theorem Fo.len_mapv (f : Nat → Nat) (a : Fo) : (a.mapv f).len = a.len := by
  induction a with
  | nil => rfl
  | var n r ih => simp [Fo.mapv, Fo.len, ih]
  | con k m x r _ ih => simp [Fo.mapv, Fo.len, ih]
theorem Fo.app_assoc (a b c : Fo) : a.app (b.app c) = (a.app b).app c := by
  induction a with
  | nil => rfl
  | var n r ih => simp [Fo.app, ih]
  | con k m x r _ ih => simp [Fo.app, ih]
theorem Fo.app_nil (a : Fo) : a.app .nil = a := by
  induction a with
  | nil => rfl
  | var n r ih => simp [Fo.app, ih]
  | con k m x r _ ih => simp [Fo.app, ih]
set_option maxRecDepth 100000 in
set_option maxHeartbeats 4000000 in
theorem told_any {base : Nat} {L : Lay} {S : PS} {c d : Nat → Nat} (hi : Ok S c d) (bm nm : Nat) (num : Nat → Nat) (k : Nat) : ∀ (x : Nat) (T : Fo) (w : World), T.cnt ≤ k → St w base L S → MapIs w bm nm num → x < S.nodes.length → Stands S.nodes c (par S.forms) [x] T →
    Calls Try.prog 42 #[.pointer (some ⟨L.g, 0, none⟩), .int .i64 (x : Int), .map (some bm)] w (ToldPost w (T.mapv num)) := by
  induction k with
  | zero =>
    intro x T w hT _ _ _ hS
    cases hS with
    | var _ _ _ => simp [Fo.cnt] at hT
    | con _ _ _ _ => simp [Fo.cnt] at hT
  | succ k ih =>
    intro x T w hT h hmap hx hS
    have IH := hide ih
    have hm := h.many
    have Hi := hide hi
    have hb1 : Below w.heap.size w (w.alloc (.cells #[.int .i64 0, .int .i64 0, .string ⟨#[]⟩, .slice none 0 0] 48)) := (Below.refl _ _).alloc (Nat.le_refl _) _
    have hR0 := heap_alloc_new w (.cells #[.int .i64 0, .int .i64 0, .string ⟨#[]⟩, .slice none 0 0] 48)
    have hF0 := h.later hb1
    have hrx := hi.inv.root x hx
    obtain ⟨W0, hW0⟩ : ∃ W0, w.alloc (.cells #[.int .i64 0, .int .i64 0, .string ⟨#[]⟩, .slice none 0 0] 48) = W0 := ⟨_, rfl⟩
    have hz0 : W0.heap.size = w.heap.size + 1 := by rw [← hW0]; simp
    rw [hW0] at hb1 hR0 hF0
    have HW0 := hide hW0; clear hW0
    obtain ⟨P, hP⟩ : ∃ P, S.nodes[par S.forms (c x)]? = some P := ⟨_, List.getElem?_eq_getElem (hi.forms x hx).lt⟩
    have HFm := hide (form_any hF0 hi.inv.forest x hx P hP)
    have H0 := hide h; have HR0 := hide hR0; have HP := hide hP; have HM := hide hmap; have Hb1 := hide hb1
    have HFd := hide (fun W (hW : St W base L S) => find_any hW hi.inv.forest x hx)
    clear ih h hmap hb1 hR0 hF0 hi
    have fl := nd_args
    go_enter Try.func42, Try.ntmps42
    go_wp2_with fail
    rw [HW0.out]
    refine HFm.out.mono ?_
    rintro e W1 ⟨ax, hax, rfl, hb2⟩
    go_upto_region 2 with fail
    obtain ⟨W2, hW2⟩ : ∃ W2, W1.alloc (.cells #[.int .i64 P.kind, .string P.name, .slice ax.1 P.args.length ax.2] 73) = W2 := ⟨_, rfl⟩
    have hB7 : W2.heap[W1.heap.size]? = some (.cells #[.int .i64 P.kind, .string P.name, .slice ax.1 P.args.length ax.2] 73 (0, 0)) := by rw [← hW2]; exact heap_alloc_new W1 _
    have hb12 : Below W1.heap.size W1 W2 := by rw [← hW2]; exact (Below.refl _ _).alloc (Nat.le_refl _) _
    have hbw : Below w.heap.size w W2 := Hb1.out.trans ((hb2.trans (hb12.mono hb2.size)).mono Hb1.out.size)
    have hR2 : W2.heap[w.heap.size]? = _ := (hb12.block _ (by have := hb2.size; omega)).trans ((hb2.block _ (by omega)).trans HR0.out)
    have hz2 : w.heap.size + 1 ≤ W1.heap.size := by have := hb2.size; omega
    have hz3 : W1.heap.size < W2.heap.size := (Array.getElem?_eq_some_iff.1 hB7).1
    simp only [hW2]
    clear hW2
    obtain ⟨y0, y1, y2⟩ := three_cells hB7
    obtain ⟨r0, r1, r2, r3, rf⟩ := four_cells hR2
    have z0 := rf 0; have z1 := rf 1; have z2 := rf 2; have z3 := rf 3
    have Hax := hide hax; have Hbw := hide hbw
    have HS2 := hide (H0.out.later hbw)
    have HM2 := hide (HM.out.keep (hbw.block _ HM.out.lt))
    have HR2 := hide hR2; have HB7 := hide hB7
    clear hax hbw hb12 hb2 hB7 hR2 rf HFm HR0 Hb1
    cases hS with
    | @var _ _ _ P' hP' hk hr =>
      obtain rfl : P = P' := by have := HP.out; rw [this] at hP'; injection hP'
      cases hr
      have k16 : (P.kind == 1) = true := by simpa using hk
      clear hP'
      go_wp2_with (first | (go_at_call 59; refine (HFd.out _ HS2.out).mono ?_; rintro e w' ⟨rfl, rfl⟩) | (at_lookup; refine wpList_map_get rfl (.tmp 17) (.tmp 20) rfl bm nm num rfl HM2.out (c x) rfl (by omega) ?_))
      obtain ⟨c0, c1, c2, c3⟩ := set4_cells W2 w.heap.size (.int .i64 1) (.int .i64 (num (c x) : Int)) (.string ⟨#[]⟩) (.slice none 0 0) _ _ _ _ r0 r1 r2 r3
      have hbf : Hid (Below w.heap.size w (set4 W2 w.heap.size (.int .i64 1) (.int .i64 (num (c x) : Int)) (.string ⟨#[]⟩) (.slice none 0 0))) := hide (set4_below Hbw.out (Nat.le_refl _) _ _ _ _)
      change bodyPost Try.prog Try.f42 _ _ _ (set4 W2 w.heap.size (.int .i64 1) (.int .i64 (num (c x) : Int)) (.string ⟨#[]⟩) (.slice none 0 0))
      clear r0 r1 r2 r3 z0 z1 z2 z3 y0 y1 y2
      generalize set4 W2 w.heap.size (.int .i64 1) (.int .i64 (num (c x) : Int)) (.string ⟨#[]⟩) (.slice none 0 0) = W9 at *
      exact bodyPost_ret (v := .agg #[.int .i64 1, .int .i64 (num (c x) : Int), .string ⟨#[]⟩, .slice none 0 0]) (by simp [results, Try.results42, go_sem, c0, c1, c2, c3]) rfl ⟨1, (num (c x) : Int), ⟨#[]⟩, none, 0, 0, rfl, ⟨none, 0, [], rfl, rfl⟩, hbf.out⟩
    | @con _ _ A _ P' hP' hk ha hr =>
      obtain rfl : P = P' := by have := HP.out; rw [this] at hP'; injection hP'
      cases hr
      have k16 : (P.kind == 1) = false := by simpa using hk
      have hPl := H0.out.few _ _ HP.out
      have hAk : A.cnt ≤ k := by simp only [Fo.cnt] at hT; omega
      have HAl := hide ha.len
      have Ha := hide ha
      obtain ⟨i4, ki, kz0, kz1, kz2⟩ := info_parts tyInfo
      have Ki := hide ki; have Kz0 := hide kz0; have Kz1 := hide kz1; have Kz2 := hide kz2
      have HT0 : Hid (TRel W2 S c num P.args A (.slice none 0 0) 0 W2) := hide ⟨Below.refl _ _, .nil, A, [], rfl, .nil, by simpa using ha, World.ownsRow_nil _ _ _ _, rfl⟩
      clear hP' hk ki kz0 kz1 kz2 ha hT
      go_wp2
      go_loopw [8, 26] (fun va vj wr => ∃ j : Nat, vj = .int .i64 j ∧ j ≤ P.args.length ∧ TRel W2 S c num P.args A va j wr) (fun _ vj _ => P.args.length - (intOf vj).toNat)
      case atStart => exact ⟨0, rfl, by omega, HT0.out⟩
      case round =>
        obtain ⟨j, rfl, hj, R⟩ := hrel
        clear HT0 r0 r1 r2 r3 z0 z1 z2 z3 y0 y1 y2
        by_cases hlt : j < P.args.length
        · have hst := HS2.out.later R.below
          obtain ⟨b1, o1, hb1, -, c1⟩ := (hst.args _ P ax HP.out Hax.out).1.at_ j (by simpa [cast] using hlt)
          simp only [cast, List.getElem_map] at c1
          obtain ⟨y, hy⟩ : ∃ y, P.args[j] = y := ⟨_, rfl⟩
          rw [hy] at c1
          have hyn : y < S.nodes.length := Hi.out.inv.wf.arg_lt HP.out (k := j) (by rw [List.getElem?_eq_getElem hlt, hy])
          obtain ⟨Aj, Rj, cs, hsp, hs1, hs2, hown, hfo⟩ := R.parts
          rw [List.drop_eq_getElem_cons hlt, hy, show y :: P.args.drop (j + 1) = [y] ++ P.args.drop (j + 1) from rfl] at hs2
          obtain ⟨B, R', hRR, hsB, hsR⟩ := hs2.split
          have hBc : B.cnt ≤ k := by
            have : A.cnt = Aj.cnt + (B.cnt + R'.cnt) := by rw [hsp, hRR, Fo.cnt_app, Fo.cnt_app]
            omega
          have HC := hide (IH.out y B wr hBc hst (HM2.out.keep (R.below.block _ HM2.out.lt)) hyn hsB)
          have Htake : Hid (P.args.take (j + 1) = P.args.take j ++ [y]) := hide (by rw [List.take_succ_eq_append_getElem hlt, hy])
          have HR := hide R; have Hsp := hide hsp; have Hs1 := hide hs1; have HsB := hide hsB; have HsR := hide hsR; have Hown := hide hown; have Hfo := hide hfo; have HRR := hide hRR
          have HB1 := hide hb1
          simp only [hb1]
          clear R hsp hs1 hs2 hsB hsR hown hfo hRR hst hy hb1
          go_wp2_with fail
          refine HC.out.mono ?_
          rintro e W3 ⟨kd, nu, sn, A5, n5, c5, rfl, hfo3, hb3⟩
          have own3 := own_keep Hown.out (fun b hb => hb3.block b (Hown.out.lt b hb).2)
          have hbW : Below W2.heap.size W2 W3 := HR.out.below.trans (hb3.mono HR.out.below.size)
          have O4 := hide (own3.alloc (.cells #[.int .i64 kd, .int .i64 nu, .string sn, .slice A5 n5 c5] 48))
          have N4 := hide (four_new W3 (.int .i64 kd) (.int .i64 nu) (.string sn) (.slice A5 n5 c5) 48)
          have E4 : Hid (∀ u ∈ [Value.int .i64 kd, .int .i64 nu, .string sn, .slice A5 n5 c5], u.oneCell' = true) := hide (by simp [Value.oneCell'])
          have Hb4 := hide (hbW.alloc hbW.size (.cells #[.int .i64 kd, .int .i64 nu, .string sn, .slice A5 n5 c5] 48))
          have hz4 : W2.heap.size ≤ W3.heap.size := hbW.size
          have Hb3 := hide hb3; have Hfo3 := hide hfo3
          have hw2 : W2.heap.size ≤ wr.heap.size := HR.out.below.size
          clear own3 hbW hb3 hfo3 HC
          go_wp2_with (at_builtin; refine wpList_append_own_at _ rfl (.tmp 30) (.tmp 35) 34 rfl W2.heap.size 48 i4 (.agg #[.int .i64 0, .int .i64 0, .string ByteArray.empty, .slice none 0 0]) 4 56 Try.underlying34 Ki.out Kz0.out Kz1.out Kz2.out rfl (by decide) u8 j cs rfl O4.out ⟨W3.heap.size, 0, none⟩ 1 1 [.int .i64 kd, .int .i64 nu, .string sn, .slice A5 n5 c5] rfl rfl N4.out E4.out (by simp only [maxLen]; omega) (by omega) (by simp; omega) ?_; intro v6 W6 own6 grow6 nil6 at6; clear nil6)
          go_roundw
          case measure => simp [intOf]; omega
          case rel =>
            refine ⟨j + 1, by go_num, by omega, Hb4.out.grown grow6 (by simp; omega) (fun b e1 => (O4.out.lt b e1).1), Aj.app B, R', cs ++ [.int .i64 kd, .int .i64 nu, .string sn, .slice A5 n5 c5], ?_, ?_, HsR.out, own6, ?_⟩
            · rw [Hsp.out, HRR.out, Fo.app_assoc]
            · rw [Htake.out]; exact Hs1.out.app HsB.out
            · have hs6 := grow6.size
              rw [World.size_alloc] at hs6
              have hsz3 := Hb3.out.size
              have hsz4 : (W3.alloc (.cells #[.int .i64 kd, .int .i64 nu, .string sn, .slice A5 n5 c5] 48)).heap.size = W3.heap.size + 1 := World.size_alloc _ _
              have hcell : ∀ p : Addr, p.block < W3.heap.size → u8.ownBlock ≠ some p.block → W6.cell? p = W3.cell? p := fun p hp hne => (grow6.cell_far p (by rw [hsz4]; omega) (fun e1 => hne e1.symm)).trans (World.cell?_alloc_lt W3 _ p hp)
              have hold : ∀ b, u8.ownBlock = some b → b < wr.heap.size := fun b hb => (Hown.out.lt b hb).2
              have hv6 : ∀ b, b < W3.heap.size → u8.ownBlock ≠ some b → v6.ownBlock ≠ some b := by
                intro b hb hne e1
                rcases at6 with e2 | e2
                · rw [e2] at e1; exact hne e1
                · rw [e2, hsz4] at e1; injection e1 with e1; omega
              rw [Fo.mapv_app]
              refine FoCells.app _ (FoCells.keep _ Hfo3.out ?_ ?_) (FoCells.keep _ Hfo.out ?_ ?_)
              · intro b hb
                exact ⟨by omega, by omega, hv6 b hb.2 (fun e1 => by have := hold b e1; omega)⟩
              · intro p hp
                exact hcell p hp.2 (fun e1 => by have := hold _ e1; omega)
              · intro b hb
                exact ⟨hb.1, by omega, hv6 b (by omega) hb.2.2⟩
              · intro p hp
                exact (hcell p (by omega) hp.2.2).trans (Hb3.out.cell hp.2.1)
        · obtain rfl : j = P.args.length := by omega
          obtain ⟨Aj, Rj, cs, hsp, hs1, hs2, hown, hfo⟩ := R.parts
          rw [List.drop_length] at hs2
          cases hs2
          rw [Fo.app_nil] at hsp
          subst hsp
          have hw2 := R.below.size
          obtain ⟨q0, q1, -⟩ := three_cells ((R.below.block _ hz3).trans HB7.out)
          obtain ⟨r0, r1, r2, r3, rf⟩ := four_cells ((R.below.block _ (by omega)).trans HR2.out)
          have z0 := rf 0; have z1 := rf 1; have z2 := rf 2; have z3 := rf 3
          have hownB : ∀ b, u8.ownBlock = some b → W2.heap.size ≤ b ∧ b < wr.heap.size := fun b hb => hown.lt b hb
          obtain ⟨A6, cap6, hv8, -, -⟩ := own_len hown
          have HR := hide R; have Hown := hide hown; have Hfo := hide hfo; have HownB := hide hownB
          subst hv8
          clear R hown hfo rf hownB hs1
          go_wp2
          obtain ⟨c0, c1, c2, c3⟩ := set4_cells wr w.heap.size (.int .i64 P.kind) (.int .i64 0) (.string P.name) (.slice A6 P.args.length cap6) _ _ _ _ r0 r1 r2 r3
          have hbf : Hid (Below w.heap.size w (set4 wr w.heap.size (.int .i64 P.kind) (.int .i64 0) (.string P.name) (.slice A6 P.args.length cap6))) := hide (set4_below (Hbw.out.trans (HR.out.below.mono Hbw.out.size)) (Nat.le_refl _) _ _ _ _)
          have hcell : ∀ p : Addr, p.block ≠ w.heap.size → (set4 wr w.heap.size (.int .i64 P.kind) (.int .i64 0) (.string P.name) (.slice A6 P.args.length cap6)).cell? p = wr.cell? p := fun p hp => World.cell?_of_block (set4_other wr _ _ _ _ _ p.block hp)
          have hsz := set4_size wr w.heap.size (.int .i64 P.kind) (.int .i64 0) (.string P.name) (.slice A6 P.args.length cap6)
          have hown9 : (set4 wr w.heap.size (.int .i64 P.kind) (.int .i64 0) (.string P.name) (.slice A6 P.args.length cap6)).ownsRow W2.heap.size 48 4 (.slice A6 P.args.length cap6) (A.mapv num).len cs := by
            rw [Fo.len_mapv, HAl.out]
            exact own_keep Hown.out (fun b hb => set4_other wr _ _ _ _ _ b (by have := (HownB.out b hb).1; omega))
          have hfo9 : FoCells (set4 wr w.heap.size (.int .i64 P.kind) (.int .i64 0) (.string P.name) (.slice A6 P.args.length cap6)) (fun b => w.heap.size ≤ b ∧ b < (set4 wr w.heap.size (.int .i64 P.kind) (.int .i64 0) (.string P.name) (.slice A6 P.args.length cap6)).heap.size) (A.mapv num) cs :=
            FoCells.keep _ Hfo.out (fun b hb => ⟨by omega, by rw [hsz]; exact hb.2.1⟩) (fun p hp => hcell p (by omega))
          obtain ⟨A7, c7, he7, hat7⟩ := fo_of_own hown9 hfo9 (fun b hb => by have := HownB.out b hb; rw [hsz]; omega)
          have HAt : Hid (FoAt (set4 wr w.heap.size (.int .i64 P.kind) (.int .i64 0) (.string P.name) (.slice A6 P.args.length cap6)) (fun b => w.heap.size ≤ b ∧ b < (set4 wr w.heap.size (.int .i64 P.kind) (.int .i64 0) (.string P.name) (.slice A6 P.args.length cap6)).heap.size) A6 (A.mapv num)) := by
            obtain rfl : A6 = A7 := by injection he7
            exact hide hat7
          clear he7 hat7 hown9 hfo9 hcell hsz
          change bodyPost Try.prog Try.f42 _ _ _ (set4 wr w.heap.size (.int .i64 P.kind) (.int .i64 0) (.string P.name) (.slice A6 P.args.length cap6))
          clear r0 r1 r2 r3 z0 z1 z2 z3 q0 q1
          generalize set4 wr w.heap.size (.int .i64 P.kind) (.int .i64 0) (.string P.name) (.slice A6 P.args.length cap6) = W9 at *
          refine bodyPost_ret (v := .agg #[.int .i64 P.kind, .int .i64 0, .string P.name, .slice A6 P.args.length cap6]) (by simp [results, Try.results42, go_sem, c0, c1, c2, c3]) rfl ⟨P.kind, 0, P.name, A6, P.args.length, cap6, rfl, ⟨A6, cap6, [], by rw [Fo.len_mapv, HAl.out], ?_, rfl⟩, hbf.out⟩
          rcases HAt.out with h1 | ⟨b, off, cs', e1, h2, h3, h4⟩
          · exact .inl h1
          · exact .inr ⟨b, off, cs', e1, h2, h3, h4⟩
end Go.Proofs.Ytafpbdmggnfdnaa

/- SameType, SameTypes: of the same types. -/
namespace Go.Proofs.Ytafpbdmggnfdnaa
open Go.RowKit
set_option linter.unusedVariables false

def Fo.nth : Fo → Nat → Fo
  | .nil, _ => .nil
  | .var n _, 0 => .var n .nil
  | .var _ r, i + 1 => r.nth i
  | .con k m a _, 0 => .con k m a .nil
  | .con _ _ _ r, i + 1 => r.nth i
theorem Fo.nth_cnt (F : Fo) : ∀ i, (F.nth i).cnt ≤ F.cnt := by
  induction F with
  | nil => intro i; simp [Fo.nth]
  | var n r ih =>
    intro i
    cases i with
    | zero => simp [Fo.nth, Fo.cnt]
    | succ i => have := ih i; simp only [Fo.nth, Fo.cnt]; omega
  | con k m a r _ ih =>
    intro i
    cases i with
    | zero => simp [Fo.nth, Fo.cnt]
    | succ i => have := ih i; simp only [Fo.nth, Fo.cnt]; omega
/-- The four cells of a type. -/
def tyCells (kd nu : Int) (s : ByteArray) (A : Option Addr) (n c : Nat) : List Value := [.int .i64 kd, .int .i64 nu, .string s, .slice A n c]
theorem FoCells.nth {w : World} {P : Nat → Prop} (F : Fo) : ∀ {cs : List Value}, FoCells w P F cs → ∀ i, i < F.len → ∃ kd nu s A n c, cs[i * 4]? = some (.int .i64 kd) ∧ cs[i * 4 + 1]? = some (.int .i64 nu) ∧ cs[i * 4 + 2]? = some (.string s) ∧ cs[i * 4 + 3]? = some (.slice A n c) ∧ FoCells w P (F.nth i) (tyCells kd nu s A n c) := by
  induction F with
  | nil => intro cs _ i hi; simp [Fo.len] at hi
  | var n r ih =>
    rintro cs ⟨A, c, rest, rfl, h⟩ i hi
    cases i with
    | zero => exact ⟨1, n, _, A, 0, c, rfl, rfl, rfl, rfl, A, c, [], rfl, rfl⟩
    | succ i =>
      obtain ⟨kd, nu, s, A', n', c', h0, h1, h2, h3, h4⟩ := ih h i (by simp [Fo.len] at hi; omega)
      refine ⟨kd, nu, s, A', n', c', ?_, ?_, ?_, ?_, h4⟩
      · rw [show (i + 1) * 4 = i * 4 + 4 by omega]; simpa using h0
      · rw [show (i + 1) * 4 + 1 = i * 4 + 1 + 4 by omega]; simpa using h1
      · rw [show (i + 1) * 4 + 2 = i * 4 + 2 + 4 by omega]; simpa using h2
      · rw [show (i + 1) * 4 + 3 = i * 4 + 3 + 4 by omega]; simpa using h3
  | con k m a r _ ih =>
    rintro cs ⟨A, c, rest, rfl, ha, h⟩ i hi
    cases i with
    | zero => exact ⟨k, 0, m, A, a.len, c, rfl, rfl, rfl, rfl, A, c, [], rfl, ha, rfl⟩
    | succ i =>
      obtain ⟨kd, nu, s, A', n', c', h0, h1, h2, h3, h4⟩ := ih h i (by simp [Fo.len] at hi; omega)
      refine ⟨kd, nu, s, A', n', c', ?_, ?_, ?_, ?_, h4⟩
      · rw [show (i + 1) * 4 = i * 4 + 4 by omega]; simpa using h0
      · rw [show (i + 1) * 4 + 1 = i * 4 + 1 + 4 by omega]; simpa using h1
      · rw [show (i + 1) * 4 + 2 = i * 4 + 2 + 4 by omega]; simpa using h2
      · rw [show (i + 1) * 4 + 3 = i * 4 + 3 + 4 by omega]; simpa using h3
/-- An element of a slice of types. -/
theorem FoAt.nth {w : World} {P : Nat → Prop} {A : Option Addr} {F : Fo} (h : FoAt w P A F) (i : Nat) (hi : i < F.len) : ∃ b off kd nu s B n c, A = some ⟨b, off, none⟩ ∧ P b ∧ w.cell? ⟨b, off + i * 4, none⟩ = some (.int .i64 kd) ∧ w.cell? ⟨b, off + i * 4 + 1, none⟩ = some (.int .i64 nu) ∧ w.cell? ⟨b, off + i * 4 + 2, none⟩ = some (.string s) ∧ w.cell? ⟨b, off + i * 4 + 3, none⟩ = some (.slice B n c) ∧ FoCells w P (F.nth i) (tyCells kd nu s B n c) := by
  rcases h with rfl | ⟨b, off, cs, e, hb, hc, hcell⟩
  · simp [Fo.len] at hi
  · obtain ⟨kd, nu, s, B, n, c, h0, h1, h2, h3, h4⟩ := FoCells.nth F hc i hi
    exact ⟨b, off, kd, nu, s, B, n, c, e, hb, hcell _ _ h0, hcell _ _ h1, hcell _ _ h2, hcell _ _ h3, h4⟩
/-- One type: what its cells are. -/
theorem FoCells.parts {w : World} {P : Nat → Prop} {F : Fo} {kd nu : Int} {s : ByteArray} {A : Option Addr} {n c : Nat} (h : FoCells w P F (tyCells kd nu s A n c)) :
    (∃ m : Nat, F = .var m .nil ∧ kd = 1 ∧ nu = m ∧ s = ByteArray.empty ∧ n = 0) ∨ (∃ a, F = .con kd s a .nil ∧ nu = 0 ∧ n = a.len ∧ FoAt w P A a) := by
  cases F with
  | nil => simp [FoCells, tyCells] at h
  | var m r =>
    obtain ⟨A', c', rest, e, hr⟩ := h
    simp only [tyCells, List.cons.injEq, Value.int.injEq, Value.string.injEq, Value.slice.injEq, true_and] at e
    obtain ⟨rfl, rfl, rfl, ⟨rfl, rfl, rfl⟩, rfl⟩ := e
    refine .inl ⟨m, ?_, rfl, rfl, rfl, rfl⟩
    cases r with
    | nil => rfl
    | var _ _ => obtain ⟨_, _, _, e, _⟩ := hr; simp at e
    | con _ _ _ _ => obtain ⟨_, _, _, e, _⟩ := hr; simp at e
  | con k m a r =>
    obtain ⟨A', c', rest, e, ha, hr⟩ := h
    simp only [tyCells, List.cons.injEq, Value.int.injEq, Value.string.injEq, Value.slice.injEq, true_and] at e
    obtain ⟨rfl, rfl, rfl, ⟨rfl, rfl, rfl⟩, rfl⟩ := e
    refine .inr ⟨a, ?_, rfl, rfl, ha⟩
    cases r with
    | nil => rfl
    | var _ _ => obtain ⟨_, _, _, e, _⟩ := hr; simp at e
    | con _ _ _ _ => obtain ⟨_, _, _, e, _⟩ := hr; simp at e
theorem box_four (w : World) (u0 u1 u2 u3 v0 v1 v2 v3 : Value) (t : TypeId) : ((w.alloc (.cells #[u0, u1, u2, u3] t)).alloc (.cells #[v0, v1, v2, v3] t)).heap[w.heap.size]? = some (.cells #[u0, u1, u2, u3] t (0, 0)) ∧ ((w.alloc (.cells #[u0, u1, u2, u3] t)).alloc (.cells #[v0, v1, v2, v3] t)).heap[w.heap.size + 1]? = some (.cells #[v0, v1, v2, v3] t (0, 0)) ∧ Below w.heap.size w ((w.alloc (.cells #[u0, u1, u2, u3] t)).alloc (.cells #[v0, v1, v2, v3] t)) ∧ ((w.alloc (.cells #[u0, u1, u2, u3] t)).alloc (.cells #[v0, v1, v2, v3] t)).heap.size = w.heap.size + 2 := by
  refine ⟨by rw [Below.heap_alloc _ _ _ (by simp)]; exact heap_alloc_new w _, ?_, ((Below.refl _ _).alloc (Nat.le_refl _) _).alloc (by simp) _, by simp⟩
  have := heap_alloc_new (w.alloc (.cells #[u0, u1, u2, u3] t)) (.cells #[v0, v1, v2, v3] t)
  rwa [World.size_alloc] at this
set_option maxRecDepth 100000 in
set_option maxHeartbeats 4000000 in
theorem sameType_any (P : Nat → Prop) (k : Nat) : ∀ (F : Fo) (w : World) (kd nu kd' nu' : Int) (s s' : ByteArray) (A A' : Option Addr) (n c n' c' : Nat), F.cnt ≤ k → F.cnt ≤ 1000000 → (∀ b, P b → b < w.heap.size) → FoCells w P F (tyCells kd nu s A n c) → FoCells w P F (tyCells kd' nu' s' A' n' c') →
    Calls Try.prog 24 #[.agg #[.int .i64 kd, .int .i64 nu, .string s, .slice A n c], .agg #[.int .i64 kd', .int .i64 nu', .string s', .slice A' n' c']] w fun e w' => e = .returned (.bool true) ∧ Below w.heap.size w w' := by
  induction k with
  | zero =>
    intro F w kd nu kd' nu' s s' A A' n c n' c' hk _ _ h1 _
    rcases h1.parts with ⟨m, rfl, _⟩ | ⟨a, rfl, _⟩ <;> simp [Fo.cnt] at hk
  | succ k ih =>
    intro F w kd nu kd' nu' s s' A A' n c n' c' hk hk6 hP h1 h2
    have IH := hide ih; have HP := hide hP
    clear ih hP
    rcases h1.parts with ⟨m, rfl, rfl, rfl, rfl, rfl⟩ | ⟨a, rfl, rfl, rfl, ha⟩
    · rcases h2.parts with ⟨m', e, rfl, rfl, rfl, rfl⟩ | ⟨a', e, _⟩
      · obtain rfl : m = m' := by injection e
        have k1 : ((m : Int) != (m : Int)) = false := by simp
        clear h1 h2 e
        obtain ⟨b0, b1, bb, bz⟩ := box_four w (.int .i64 1) (.int .i64 (m : Int)) (.string ByteArray.empty) (.slice A 0 c) (.int .i64 1) (.int .i64 (m : Int)) (.string ByteArray.empty) (.slice A' 0 c') 48
        have Hbb := hide bb
        clear b0 b1 bb bz
        go_enter Try.func24, Try.ntmps24
        go_wp2
        go_loop [5] (fun vi => vi = .int .i64 0) (fun _ => 0)
        case atStart => rfl
        case round =>
          subst hrel
          go_wp2
          go_ret
          exact ⟨rfl, Hbb.out⟩
      · cases e
    · rcases h2.parts with ⟨m', e, _⟩ | ⟨a', e, rfl, rfl, ha'⟩
      · cases e
      · obtain ⟨rfl, rfl, rfl⟩ : kd = kd' ∧ s = s' ∧ a = a' := by injection e with e1 e2 e3; exact ⟨e1, e2, e3⟩
        have hak : a.cnt ≤ k := by simp only [Fo.cnt] at hk; omega
        have hal : a.len ≤ 1000000 := by have := a.len_le; simp only [Fo.cnt] at hk6; omega
        have hak6 : a.cnt ≤ 1000000 := by simp only [Fo.cnt] at hk6; omega
        have k0 : (kd != kd) = false := by simp
        have k1 : ((a.len : Int) != (a.len : Int)) = false := by simp
        obtain ⟨b0, b1, bb, bz⟩ := box_four w (.int .i64 kd) (.int .i64 0) (.string s) (.slice A a.len c) (.int .i64 kd) (.int .i64 0) (.string s) (.slice A' a.len c') 48
        obtain ⟨W0, hW0⟩ : ∃ W0, (w.alloc (.cells #[.int .i64 kd, .int .i64 0, .string s, .slice A a.len c] 48)).alloc (.cells #[.int .i64 kd, .int .i64 0, .string s, .slice A' a.len c'] 48) = W0 := ⟨_, rfl⟩
        rw [hW0] at b0 b1 bb bz
        have HW0 := hide hW0; have Hb0 := hide b0; have Hb1 := hide b1; have Hbb := hide bb; have Hbz := hide bz; have Ha := hide ha; have Ha' := hide ha'
        clear h1 h2 e hW0 b0 b1 bb bz ha ha'
        go_enter Try.func24, Try.ntmps24
        go_wp2
        simp only [HW0.out]
        go_loopw [5] (fun vi wr => ∃ i : Nat, vi = .int .i64 i ∧ i ≤ a.len ∧ Hid (Below W0.heap.size W0 wr)) (fun vi _ => a.len - (intOf vi).toNat)
        case atStart => exact ⟨0, rfl, by omega, hide (Below.refl _ _)⟩
        case round =>
          obtain ⟨i, rfl, hi, HB⟩ := hrel
          have hbz := Hbz.out
          obtain ⟨-, -, -, x3, -⟩ := four_cells ((HB.out.block _ (by omega)).trans Hb0.out)
          obtain ⟨-, -, -, y3, -⟩ := four_cells ((HB.out.block _ (by omega)).trans Hb1.out)
          have Hbw := hide (Hbb.out.trans (HB.out.mono (by omega)))
          have lw : w.heap.size < wr.heap.size := by have := HB.out.size; omega
          have lw1 : w.heap.size + 1 < wr.heap.size := by have := HB.out.size; omega
          clear hbz
          by_cases hlt : i < a.len
          · obtain ⟨b, off, kx, nx, sx, Bx, mx, cx, rfl, hb, p0, p1, p2, p3, hfo⟩ := Ha.out.nth i hlt
            obtain ⟨b', off', ky, ny, sy, By, my, cy, rfl, hb', q0, q1, q2, q3, hfo'⟩ := Ha'.out.nth i hlt
            have hbl := HP.out b hb
            have hbl' := HP.out b' hb'
            have p0 := (Hbw.out.cell (p := ⟨b, off + i * 4, none⟩) hbl).trans p0
            have p1 := (Hbw.out.cell (p := ⟨b, off + i * 4 + 1, none⟩) hbl).trans p1
            have p2 := (Hbw.out.cell (p := ⟨b, off + i * 4 + 2, none⟩) hbl).trans p2
            have p3 := (Hbw.out.cell (p := ⟨b, off + i * 4 + 3, none⟩) hbl).trans p3
            have q0 := (Hbw.out.cell (p := ⟨b', off' + i * 4, none⟩) hbl').trans q0
            have q1 := (Hbw.out.cell (p := ⟨b', off' + i * 4 + 1, none⟩) hbl').trans q1
            have q2 := (Hbw.out.cell (p := ⟨b', off' + i * 4 + 2, none⟩) hbl').trans q2
            have q3 := (Hbw.out.cell (p := ⟨b', off' + i * 4 + 3, none⟩) hbl').trans q3
            have lb : b < wr.heap.size := by omega
            have lb' : b' < wr.heap.size := by omega
            have HC := hide (fun W (hW : Below w.heap.size w W) => IH.out (a.nth i) W kx nx ky ny sx sy Bx By mx cx my cy (Nat.le_trans (a.nth_cnt i) hak) (Nat.le_trans (a.nth_cnt i) hak6) (fun b hb => Nat.lt_of_lt_of_le (HP.out b hb) hW.size) (FoCells.keep _ hfo (fun b hb => hb) (fun p hp => hW.cell (HP.out _ hp))) (FoCells.keep _ hfo' (fun b hb => hb) (fun p hp => hW.cell (HP.out _ hp))))
            clear hfo hfo' hb hb'
            go_upto_region 6 with fail
            go_region_held3 (fun w' => w'.cell? ⟨w.heap.size, 3, none⟩ = some (.slice (some ⟨b, off, none⟩) a.len c) ∧ w'.cell? ⟨w.heap.size + 1, 3, none⟩ = some (.slice (some ⟨b', off', none⟩) a.len c') ∧ w'.cell? ⟨b, off + i * 4, none⟩ = some (.int .i64 kx) ∧ w'.cell? ⟨b, off + i * 4 + 1, none⟩ = some (.int .i64 nx) ∧ w'.cell? ⟨b, off + i * 4 + 2, none⟩ = some (.string sx) ∧ w'.cell? ⟨b, off + i * 4 + 3, none⟩ = some (.slice Bx mx cx) ∧ w'.cell? ⟨b', off' + i * 4, none⟩ = some (.int .i64 ky) ∧ w'.cell? ⟨b', off' + i * 4 + 1, none⟩ = some (.int .i64 ny) ∧ w'.cell? ⟨b', off' + i * 4 + 2, none⟩ = some (.string sy) ∧ w'.cell? ⟨b', off' + i * 4 + 3, none⟩ = some (.slice By my cy)) (go_keep)
              (first | (go_at_call 24; refine (HC.out _ (by first | exact Hbw.out | exact Hbw.out.drew)).mono ?_; rintro e w' ⟨rfl, hb'⟩; have r0 := (hb'.cell (p := ⟨w.heap.size, 3, none⟩) lw).trans x3; have r1 := (hb'.cell (p := ⟨w.heap.size + 1, 3, none⟩) lw1).trans y3; have r2 := (hb'.cell (p := ⟨b, off + i * 4, none⟩) lb).trans p0; have r3 := (hb'.cell (p := ⟨b, off + i * 4 + 1, none⟩) lb).trans p1; have r4 := (hb'.cell (p := ⟨b, off + i * 4 + 2, none⟩) lb).trans p2; have r5 := (hb'.cell (p := ⟨b, off + i * 4 + 3, none⟩) lb).trans p3; have r6 := (hb'.cell (p := ⟨b', off' + i * 4, none⟩) lb').trans q0; have r7 := (hb'.cell (p := ⟨b', off' + i * 4 + 1, none⟩) lb').trans q1; have r8 := (hb'.cell (p := ⟨b', off' + i * 4 + 2, none⟩) lb').trans q2; have r9 := (hb'.cell (p := ⟨b', off' + i * 4 + 3, none⟩) lb').trans q3))
            have Hb2 := hide (HB.out.trans ((Below.refl _ _).drew.trans (hb'.mono HB.out.size)))
            rename_i hHeld
            clear hHeld hb' r0 r1 r2 r3 r4 r5 r6 r7 r8 r9 p0 p1 p2 p3 q0 q1 q2 q3 x3 y3
            go_wp2
            go_roundw
            case measure => simp [intOf]; omega
            case rel => exact ⟨i + 1, by go_num, by omega, Hb2⟩
          · go_wp2
            go_ret
            exact ⟨rfl, Hbw.out⟩
set_option maxRecDepth 100000 in
set_option maxHeartbeats 4000000 in
theorem sameTypes_any (P : Nat → Prop) (F : Fo) (w : World) (A A' : Option Addr) (c c' : Nat) (hk : F.cnt ≤ 1000000) (hP : ∀ b, P b → b < w.heap.size) (h1 : FoAt w P A F) (h2 : FoAt w P A' F) :
    Calls Try.prog 18 #[.slice A F.len c, .slice A' F.len c'] w fun e w' => e = .returned (.bool true) ∧ Below w.heap.size w w' := by
  have hal : F.len ≤ 1000000 := by have := F.len_le; omega
  have k1 : ((F.len : Int) != (F.len : Int)) = false := by simp
  have Ha := hide h1; have Ha' := hide h2; have HP := hide hP
  clear h1 h2 hP
  go_enter Try.func18, Try.ntmps18
  go_wp2
  go_loopw [5] (fun vi wr => ∃ i : Nat, vi = .int .i64 i ∧ i ≤ F.len ∧ Hid (Below w.heap.size w wr)) (fun vi _ => F.len - (intOf vi).toNat)
  case atStart => exact ⟨0, rfl, by omega, hide (Below.refl _ _)⟩
  case round =>
    obtain ⟨i, rfl, hi, Hbw⟩ := hrel
    have lw : w.heap.size ≤ wr.heap.size := Hbw.out.size
    by_cases hlt : i < F.len
    · obtain ⟨b, off, kx, nx, sx, Bx, mx, cx, rfl, hb, p0, p1, p2, p3, hfo⟩ := Ha.out.nth i hlt
      obtain ⟨b', off', ky, ny, sy, By, my, cy, rfl, hb', q0, q1, q2, q3, hfo'⟩ := Ha'.out.nth i hlt
      have hbl := HP.out b hb
      have hbl' := HP.out b' hb'
      have p0 := (Hbw.out.cell (p := ⟨b, off + i * 4, none⟩) hbl).trans p0
      have p1 := (Hbw.out.cell (p := ⟨b, off + i * 4 + 1, none⟩) hbl).trans p1
      have p2 := (Hbw.out.cell (p := ⟨b, off + i * 4 + 2, none⟩) hbl).trans p2
      have p3 := (Hbw.out.cell (p := ⟨b, off + i * 4 + 3, none⟩) hbl).trans p3
      have q0 := (Hbw.out.cell (p := ⟨b', off' + i * 4, none⟩) hbl').trans q0
      have q1 := (Hbw.out.cell (p := ⟨b', off' + i * 4 + 1, none⟩) hbl').trans q1
      have q2 := (Hbw.out.cell (p := ⟨b', off' + i * 4 + 2, none⟩) hbl').trans q2
      have q3 := (Hbw.out.cell (p := ⟨b', off' + i * 4 + 3, none⟩) hbl').trans q3
      have lb : b < wr.heap.size := by omega
      have lb' : b' < wr.heap.size := by omega
      have HC := hide (fun W (hW : Below w.heap.size w W) => sameType_any P _ (F.nth i) W kx nx ky ny sx sy Bx By mx cx my cy (Nat.le_refl _) (Nat.le_trans (F.nth_cnt i) hk) (fun b hb => Nat.lt_of_lt_of_le (HP.out b hb) hW.size) (FoCells.keep _ hfo (fun b hb => hb) (fun p hp => hW.cell (HP.out _ hp))) (FoCells.keep _ hfo' (fun b hb => hb) (fun p hp => hW.cell (HP.out _ hp))))
      clear hfo hfo' hb hb'
      go_upto_region 6 with fail
      go_region_held3 (fun w' => w'.cell? ⟨b, off + i * 4, none⟩ = some (.int .i64 kx) ∧ w'.cell? ⟨b, off + i * 4 + 1, none⟩ = some (.int .i64 nx) ∧ w'.cell? ⟨b, off + i * 4 + 2, none⟩ = some (.string sx) ∧ w'.cell? ⟨b, off + i * 4 + 3, none⟩ = some (.slice Bx mx cx) ∧ w'.cell? ⟨b', off' + i * 4, none⟩ = some (.int .i64 ky) ∧ w'.cell? ⟨b', off' + i * 4 + 1, none⟩ = some (.int .i64 ny) ∧ w'.cell? ⟨b', off' + i * 4 + 2, none⟩ = some (.string sy) ∧ w'.cell? ⟨b', off' + i * 4 + 3, none⟩ = some (.slice By my cy)) (go_keep)
        (first | (go_at_call 24; refine (HC.out _ (by first | exact Hbw.out | exact Hbw.out.drew)).mono ?_; rintro e w' ⟨rfl, hb'⟩; have r2 := (hb'.cell (p := ⟨b, off + i * 4, none⟩) lb).trans p0; have r3 := (hb'.cell (p := ⟨b, off + i * 4 + 1, none⟩) lb).trans p1; have r4 := (hb'.cell (p := ⟨b, off + i * 4 + 2, none⟩) lb).trans p2; have r5 := (hb'.cell (p := ⟨b, off + i * 4 + 3, none⟩) lb).trans p3; have r6 := (hb'.cell (p := ⟨b', off' + i * 4, none⟩) lb').trans q0; have r7 := (hb'.cell (p := ⟨b', off' + i * 4 + 1, none⟩) lb').trans q1; have r8 := (hb'.cell (p := ⟨b', off' + i * 4 + 2, none⟩) lb').trans q2; have r9 := (hb'.cell (p := ⟨b', off' + i * 4 + 3, none⟩) lb').trans q3))
      have Hb2 := hide (Hbw.out.trans ((Below.refl _ _).drew.trans (hb'.mono lw)))
      rename_i hHeld
      clear hHeld hb' r2 r3 r4 r5 r6 r7 r8 r9 p0 p1 p2 p3 q0 q1 q2 q3
      go_wp2
      go_roundw
      case measure => simp [intOf]; omega
      case rel => exact ⟨i + 1, by go_num, by omega, Hb2⟩
    · go_wp2
      go_ret
      exact ⟨rfl, Hbw.out⟩
end Go.Proofs.Ytafpbdmggnfdnaa
