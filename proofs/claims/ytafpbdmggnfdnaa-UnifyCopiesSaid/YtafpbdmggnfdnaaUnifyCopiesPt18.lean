/- Part 18 of the proof of UnifyCopies: what follows was kept as these texts: Alive, PlainMeets, TwoAsk, PlainCopy, LiveF. -/
import Derived.Test.YtafpbdmggnfdnaaUnifyCopiesPt1
import Derived.Test.YtafpbdmggnfdnaaUnifyCopiesPt2
import Derived.Test.YtafpbdmggnfdnaaUnifyCopiesPt3
import Derived.Test.YtafpbdmggnfdnaaUnifyCopiesPt4
import Derived.Test.YtafpbdmggnfdnaaUnifyCopiesPt5
import Derived.Test.YtafpbdmggnfdnaaUnifyCopiesPt6
import Derived.Test.YtafpbdmggnfdnaaUnifyCopiesPt7
import Derived.Test.YtafpbdmggnfdnaaUnifyCopiesPt8
import Derived.Test.YtafpbdmggnfdnaaUnifyCopiesPt9
import Derived.Test.YtafpbdmggnfdnaaUnifyCopiesPt10
import Derived.Test.YtafpbdmggnfdnaaUnifyCopiesPt11
import Derived.Test.YtafpbdmggnfdnaaUnifyCopiesPt12
import Derived.Test.YtafpbdmggnfdnaaUnifyCopiesPt13
import Derived.Test.YtafpbdmggnfdnaaUnifyCopiesPt14
import Derived.Test.YtafpbdmggnfdnaaUnifyCopiesPt15
import Derived.Test.YtafpbdmggnfdnaaUnifyCopiesPt16
import Derived.Test.YtafpbdmggnfdnaaUnifyCopiesPt17
/- alive: a store of six nodes. -/
namespace Go.Proofs.Ytafpbdmggnfdnaa
open Go.RowKit
set_option linter.unusedVariables false

theorem addC_id (n : Nat) : addC n (fun i => i) = fun i => i := by
  funext i; unfold addC; split
  · rename_i h; exact h.symm
  · rfl
/-- A class with a head that is no variable. -/
theorem Stands.con_of {N : List Nd} {c F : Nat → Nat} (hw : Wf N) (hcl : Closed N c) (hF : ∀ i, i < N.length → Form N c (c i) (F (c i))) {i j : Nat} {is : List Nat} {T : Fo} {q : Nd} (hi : i < N.length) (hj : N[j]? = some q) (hij : c j = c i) (hk : q.kind ≠ 1) (h : Stands N c F (i :: is) T) :
    ∃ A T', T = .con q.kind q.name A T' ∧ Stands N c F q.args A ∧ Stands N c F is T' := by
  have Fi := hF i hi
  cases h with
  | @var _ _ T' p hp hkp hr => exact absurd hkp (Fi.head j q p hj hij hk hp)
  | @con _ _ A T' p hp hkp ha hr =>
    obtain ⟨hh, hargs⟩ := hcl (F (c i)) j p q hp hj (Fi.cls.trans hij.symm) hkp hk
    exact ⟨A, T', by rw [hh.1, hh.2.1], ha.congr hh.2.2 hargs, hr⟩

def bInt : ByteArray := ⟨#[105, 110, 116]⟩
def bList : ByteArray := ⟨#[108, 105, 115, 116]⟩
def N6 : List Nd := [varNd, varNd, ⟨2, bInt, []⟩, ⟨4, ByteArray.empty, [0, 0]⟩, ⟨4, ByteArray.empty, [2, 1]⟩, ⟨2, bList, [0]⟩]
theorem forall6 {P : Nat → Prop} (h0 : P 0) (h1 : P 1) (h2 : P 2) (h3 : P 3) (h4 : P 4) (h5 : P 5) (i : Nat) (hi : i < 6) : P i := by
  rcases i with _ | _ | _ | _ | _ | _ | i
  · exact h0
  · exact h1
  · exact h2
  · exact h3
  · exact h4
  · exact h5
  · omega
theorem at6 {i : Nat} {p : Nd} (h : N6[i]? = some p) : i < 6 := by
  have := (List.getElem?_eq_some_iff.1 h).1
  simpa [N6] using this
theorem alive_cycle {err : Int} {c' : Nat → Nat} (h : UniSaid N6 (fun i => i) 0 5 err c') (ha : Acyc N6 c') : err = 130 ∧ c' = fun i => i := by
  rcases h with ⟨h, _⟩ | ⟨_, ⟨_, h⟩ | ⟨_, _, h⟩ | ⟨h1, h2, _⟩⟩
  · exact absurd h (by decide)
  · obtain ⟨g, g1, g2⟩ := ha
    have h1 := g2 5 ⟨2, bList, [0]⟩ rfl 0 (by simp)
    have h2 := g1 0 5 (by decide) (by decide) h.good.ab
    omega
  · refine absurd ?_ (h (fun i => if i = 5 then 0 else i))
    refine ⟨fun i j _ _ e => by have e' : i = j := e; rw [e'], rfl, ?_⟩
    intro i j p q hi hj hij hp hq
    have : i = j := by
      have h1 := at6 hi
      have h2 := at6 hj
      simp only at hij
      by_cases e1 : i = 5 <;> by_cases e2 : j = 5
      · omega
      · rw [if_pos e1, if_neg e2] at hij
        subst hij
        simp [N6] at hj; subst hj; exact absurd rfl hq
      · rw [if_neg e1, if_pos e2] at hij
        subst hij
        simp [N6] at hi; subst hi; exact absurd rfl hp
      · rw [if_neg e1, if_neg e2] at hij; exact hij
    subst this
    rw [hi] at hj; injection hj with hj; subst hj
    exact ⟨⟨rfl, rfl, rfl⟩, fun k a b ha hb => by rw [ha] at hb; injection hb with hb; rw [hb]⟩
  · exact ⟨h1, h2⟩
def e6 (i : Nat) : Nat := if i ≤ 2 then 0 else if i ≤ 4 then 3 else i
theorem good6 : Good N6 (fun i => i) 3 4 e6 := by
  refine ⟨fun i j _ _ e => by have e' : i = j := e; rw [e'], rfl, ?_⟩
  intro i j p q hi hj
  have h1 := at6 hi
  have h2 := at6 hj
  revert hi hj
  refine forall6 (P := fun i => N6[i]? = some p → N6[j]? = some q → e6 i = e6 j → p.kind ≠ 1 → q.kind ≠ 1 → Heads p q ∧ ∀ (k a b : Nat), p.args[k]? = some a → q.args[k]? = some b → e6 a = e6 b) ?_ ?_ ?_ ?_ ?_ ?_ i h1 <;>
  refine forall6 (P := fun j => N6[_]? = some p → N6[j]? = some q → e6 _ = e6 j → p.kind ≠ 1 → q.kind ≠ 1 → Heads p q ∧ ∀ (k a b : Nat), p.args[k]? = some a → q.args[k]? = some b → e6 a = e6 b) ?_ ?_ ?_ ?_ ?_ ?_ j h2 <;>
  · intro hp hq he kp kq
    first
      | exact absurd he (by decide)
      | (simp only [N6, List.getElem?_cons_zero, List.getElem?_cons_succ, Option.some.injEq] at hp hq
         subst hp; subst hq
         first
           | exact absurd rfl kp
           | exact absurd rfl kq
           | (refine ⟨⟨rfl, rfl, rfl⟩, fun k a b ha hb => ?_⟩
              rcases k with _ | _ | k <;> simp at ha hb <;> (try subst ha) <;> (try subst hb) <;> rfl))
theorem acyc6 : Acyc N6 e6 := by
  refine ⟨fun i => if i ≤ 2 then 0 else 1, ?_, fun i p hi => ?_⟩
  · intro i j hi hj
    have h1 : i < 6 := by simpa [N6] using hi
    have h2 : j < 6 := by simpa [N6] using hj
    unfold e6
    intro hij
    show (if i ≤ 2 then 0 else 1) = (if j ≤ 2 then 0 else 1)
    by_cases a : i ≤ 2 <;> by_cases b : j ≤ 2
    · rw [if_pos a, if_pos b]
    · rw [if_pos a, if_neg b] at hij; split at hij <;> omega
    · rw [if_neg a, if_pos b] at hij; split at hij <;> omega
    · rw [if_neg a, if_neg b]
  · have h1 := at6 hi
    revert hi
    refine forall6 (P := fun i => N6[i]? = some p → ∀ a ∈ p.args, (if a ≤ 2 then 0 else 1) < (if i ≤ 2 then 0 else 1)) ?_ ?_ ?_ ?_ ?_ ?_ i h1 <;>
    · intro hp a ha
      simp only [N6, List.getElem?_cons_zero, List.getElem?_cons_succ, Option.some.injEq] at hp
      subst hp
      simp [varNd] at ha
      try (rcases ha with rfl | rfl <;> decide)
      try (subst ha; decide)
theorem alive_ok {err : Int} {c' : Nat → Nat} (h : UniSaid N6 (fun i => i) 3 4 err c') : err = 0 ∧ c' 3 = c' 4 := by
  rcases h with ⟨h, _⟩ | ⟨_, ⟨h0, h⟩ | ⟨_, _, h⟩ | ⟨h1, h2, cl, hl, hn⟩⟩
  · exact absurd h (by decide)
  · exact ⟨h0, h.good.ab⟩
  · exact absurd good6 (h e6)
  · exact absurd (acyc6.of (hl.least e6 good6)) hn
theorem alive_cls {c : Nat → Nat} (hcl : Closed N6 c) (h : c 3 = c 4) : c 0 = c 2 ∧ c 0 = c 1 := by
  obtain ⟨_, h1⟩ := hcl 3 4 _ _ rfl rfl h (by decide) (by decide)
  exact ⟨h1 0 0 2 rfl rfl, h1 1 0 1 rfl rfl⟩
theorem alive_tree {c : Nat → Nat} (hw : Wf N6) (hcl : Closed N6 c) (h : c 3 = c 4) {T : Fo} (hT : TreeOf N6 c [1, 5] T) : T = .con 2 bInt .nil (.con 2 bList (.con 2 bInt .nil .nil) .nil) := by
  obtain ⟨h1, h2⟩ := alive_cls hcl h
  obtain ⟨F, hF, hS⟩ := hT
  obtain ⟨A, T', rfl, ha, hr⟩ := Stands.con_of hw hcl hF (by decide) (j := 2) (q := ⟨2, bInt, []⟩) rfl (h1.symm.trans h2) (by decide) hS
  cases ha
  obtain ⟨B, T'', rfl, hb, hr2⟩ := Stands.con_of hw hcl hF (by decide) (j := 5) (q := ⟨2, bList, [0]⟩) rfl rfl (by decide) hr
  cases hr2
  obtain ⟨C, T3, rfl, hc, hr3⟩ := Stands.con_of hw hcl hF (by decide) (j := 2) (q := ⟨2, bInt, []⟩) rfl h1.symm (by decide) hb
  cases hc; cases hr3
  rfl
theorem alive_small {c : Nat → Nat} (hw : Wf N6) (hcl : Closed N6 c) (h : c 3 = c 4) {x : Nat} (hx : x = 1 ∨ x = 5) {T : Fo} (hT : TreeOf N6 c [x] T) : T.cnt ≤ 300 ∧ (x = 5 → T.cnt = 2) := by
  obtain ⟨h1, h2⟩ := alive_cls hcl h
  obtain ⟨F, hF, hS⟩ := hT
  rcases hx with rfl | rfl
  · obtain ⟨A, T', rfl, ha, hr⟩ := Stands.con_of hw hcl hF (by decide) (j := 2) (q := ⟨2, bInt, []⟩) rfl (h1.symm.trans h2) (by decide) hS
    cases ha; cases hr
    exact ⟨by simp [Fo.cnt], fun e => by cases e⟩
  · obtain ⟨B, T'', rfl, hb, hr2⟩ := Stands.con_of hw hcl hF (by decide) (j := 5) (q := ⟨2, bList, [0]⟩) rfl rfl (by decide) hS
    cases hr2
    obtain ⟨C, T3, rfl, hc, hr3⟩ := Stands.con_of hw hcl hF (by decide) (j := 2) (q := ⟨2, bInt, []⟩) rfl h1.symm (by decide) hb
    cases hc; cases hr3
    exact ⟨by simp [Fo.cnt], fun _ => by simp [Fo.cnt]⟩
theorem alive_yes {c : Nat → Nat} (hcl : Closed N6 c) (h : c 3 = c 4) : AlikeIn N6 c 1 2 := by
  obtain ⟨h1, h2⟩ := alive_cls hcl h
  exact ⟨c, ⟨fun _ _ _ _ e => e, h2.symm.trans h1, hcl⟩, Still.refl _ _⟩
theorem alive_no (c : Nat → Nat) : ¬ AlikeIn N6 c 3 2 := by
  rintro ⟨e, he, _⟩
  have := (he.closed 3 2 _ _ rfl rfl he.ab (by decide) (by decide)).1.1
  exact absurd this (by decide)
end Go.Proofs.Ytafpbdmggnfdnaa

/- Plain: two stores whose classes are the same; what is alike stands for the same. -/
namespace Go.Proofs.Ytafpbdmggnfdnaa
set_option linter.unusedVariables false

theorem addNew_map (f : Nat → Nat) : ∀ (vs acc : List Nat), (∀ x ∈ acc ++ vs, ∀ y ∈ acc ++ vs, f x = f y → x = y) → addNew (acc.map f) (vs.map f) = (addNew acc vs).map f := by
  intro vs
  induction vs with
  | nil => intro acc _; rfl
  | cons v vs ih =>
    intro acc hinj
    have hmem : f v ∈ acc.map f ↔ v ∈ acc := by
      constructor
      · intro h
        obtain ⟨y, hy, e⟩ := List.mem_map.1 h
        have := hinj y (List.mem_append_left _ hy) v (by simp) e
        rwa [← this]
      · intro h; exact List.mem_map_of_mem h
    unfold addNew at ih ⊢
    rw [List.map_cons, List.foldl_cons, List.foldl_cons]
    by_cases hv : v ∈ acc
    · rw [if_pos hv, if_pos (hmem.2 hv)]
      exact ih acc (fun x hx y hy => hinj x (by simp at hx ⊢; rcases hx with h | h; exact .inl h; exact .inr (.inr h)) y (by simp at hy ⊢; rcases hy with h | h; exact .inl h; exact .inr (.inr h)))
    · rw [if_neg hv, if_neg (fun h => hv (hmem.1 h))]
      have := ih (acc ++ [v]) (fun x hx y hy => hinj x (by simpa using hx) y (by simpa using hy))
      simpa using this
theorem idxOf_map (f : Nat → Nat) : ∀ (l : List Nat) (v : Nat), (∀ x ∈ l, f x = f v → x = v) → (l.map f).idxOf (f v) = l.idxOf v := by
  intro l
  induction l with
  | nil => intro v _; rfl
  | cons a l ih =>
    intro v hinj
    rw [List.map_cons, List.idxOf_cons, List.idxOf_cons]
    by_cases h : a = v
    · subst h; simp
    · have h2 : ¬ f a = f v := fun e => h (hinj a List.mem_cons_self e)
      have h3 : (a == v) = false := by simpa using h
      have h4 : (f a == f v) = false := by simpa using h2
      rw [h3, h4]
      simp only [cond_false]
      rw [ih v (fun x hx => hinj x (List.mem_cons_of_mem _ hx))]
/-- The names of the variables don't matter. -/
theorem ren_mapv (f : Nat → Nat) (T : Fo) (hinj : ∀ x ∈ T.vars, ∀ y ∈ T.vars, f x = f y → x = y) : ren (T.mapv f) = ren T := by
  have e : addNew [] (T.vars.map f) = (addNew [] T.vars).map f := by
    have := addNew_map f T.vars [] (by simpa using hinj)
    simpa using this
  unfold ren
  rw [Fo.mapv_mapv, Fo.vars_mapv, e]
  refine Fo.mapv_congr T (fun v hv => ?_)
  refine idxOf_map f _ v (fun x hx he => ?_)
  have hx' : x ∈ T.vars := by simpa using (addNew_mem _ _ _).1 hx
  exact hinj x hx' v hv he
section
variable {N : List Nd} {c c' : Nat → Nat}
theorem tree_same {is : List Nat} {T T' : Fo} (hw : Wf N) (hcl : Closed N c) (hs : SameC N c c') (hc : ∀ i, i < N.length → c i < N.length ∧ c (c i) = c i) (hi : ∀ i ∈ is, i < N.length) (h : TreeOf N c is T) (h' : TreeOf N c' is T') : T'.cnt = T.cnt ∧ ren T' = ren T := by
  obtain ⟨F, hF, hT⟩ := h
  obtain ⟨F', hF', hT'⟩ := h'
  have e := Stands.same hw hcl hs.1 hs.2 hc hF hF' hT is T' hi hi rfl (fun k i j h1 h2 => by rw [h1] at h2; injection h2 with e; rw [e]) hT'
  have hr := hT.roots hw hc hi
  rw [e]
  refine ⟨Fo.cnt_mapv _ _, ren_mapv c' T (fun x hx y hy he => ?_)⟩
  have h1 := hr x hx
  have h2 := hr y hy
  have := hs.2 x y h1.1 h2.1 he
  rw [h1.2, h2.2] at this
  exact this
/-- Nodes of one class stand for the same. -/
theorem tree_pair {x y : Nat} {T : Fo} (hxy : c x = c y) (h : TreeOf N c [x, y] T) : ∃ A, TreeOf N c [x] A ∧ TreeOf N c [y] A ∧ T = A.app A ∧ A.len = 1 := by
  obtain ⟨F, hF, hT⟩ := h
  obtain ⟨A, B, rfl, h1, h2⟩ := Stands.split (is := [x]) (js := [y]) hT
  have h3 : Stands N c F [y] A := h1.congr rfl (fun k i j hi hj => by
    rcases k with _ | k
    · simp at hi hj; subst hi; subst hj; exact hxy
    · simp at hi)
  have e := h3.unique h2
  subst e
  exact ⟨A, ⟨F, hF, h1⟩, ⟨F, hF, h2⟩, rfl, h1.len⟩
theorem Fo.nth_app0 (A B : Fo) (h : A.len = 1) : (A.app B).nth 0 = A ∧ (A.app B).nth 1 = B.nth 0 := by
  cases A with
  | nil => simp [Fo.len] at h
  | var n r =>
    cases r with
    | nil => exact ⟨rfl, rfl⟩
    | var _ _ => simp [Fo.len] at h
    | con _ _ _ _ => simp [Fo.len] at h
  | con k m a r =>
    cases r with
    | nil => exact ⟨rfl, rfl⟩
    | var _ _ => simp [Fo.len] at h
    | con _ _ _ _ => simp [Fo.len] at h
theorem Fo.nth_one (A : Fo) (h : A.len = 1) : A.nth 0 = A := by
  have := (Fo.nth_app0 A .nil h).1
  rwa [Fo.app_nil] at this
/-- What is alike has the same tree. -/
theorem alike_tree {F e : Nat → Nat} (hw : Wf N) (hcl : Closed N c) (hc : ∀ i, i < N.length → c i < N.length ∧ c (c i) = c i) (hF : ∀ i, i < N.length → Form N c (c i) (F (c i))) (hr : Resp N.length c e) (hce : Closed N e) (hst : Still N c e) :
    ∀ {is : List Nat} {T : Fo}, Stands N c F is T → ∀ {js : List Nat} {U : Fo}, Stands N c F js U → (∀ i ∈ is, i < N.length) → (∀ j ∈ js, j < N.length) → is.length = js.length → (∀ (k i j : Nat), is[k]? = some i → js[k]? = some j → e i = e j) → T = U := by
  have hvar : ∀ i p, i < N.length → N[F (c i)]? = some p → p.kind = 1 → VarCls N c i := by
    intro i p hi hp hk j q hj hji
    exact (hF i hi).vars hp hk j q hj hji
  intro is T h
  induction h with
  | nil =>
    intro js U hU _ _ hl _
    rcases js with _ | ⟨j, js⟩
    · cases hU; rfl
    · simp at hl
  | @var i is T p hp hk hr' ih =>
    intro js U hU hi hj hl hm
    rcases js with _ | ⟨j, js⟩
    · simp at hl
    · have hil := hi i List.mem_cons_self
      have hjl := hj j List.mem_cons_self
      have hij := hst i j hil hjl (hvar i p hil hp hk) (hm 0 i j rfl rfl)
      have hrest := fun U' hU' => ih (js := js) (U := U') hU' (fun x hx => hi x (List.mem_cons_of_mem _ hx)) (fun x hx => hj x (List.mem_cons_of_mem _ hx)) (by simpa using hl) (fun k x y hx hy => hm (k + 1) x y (by simpa using hx) (by simpa using hy))
      cases hU with
      | @var _ _ U' q hq hkq hrU => rw [hrest U' hrU, hij]
      | @con _ _ _ _ q hq hkq _ _ => rw [← hij, hp] at hq; injection hq with hq; subst hq; exact absurd hk hkq
  | @con i is A T p hp hk ha hr' iha ih =>
    intro js U hU hi hj hl hm
    rcases js with _ | ⟨j, js⟩
    · simp at hl
    · have hil := hi i List.mem_cons_self
      have hjl := hj j List.mem_cons_self
      have hij := hm 0 i j rfl rfl
      have hrest := fun U' hU' => ih (js := js) (U := U') hU' (fun x hx => hi x (List.mem_cons_of_mem _ hx)) (fun x hx => hj x (List.mem_cons_of_mem _ hx)) (by simpa using hl) (fun k x y hx hy => hm (k + 1) x y (by simpa using hx) (by simpa using hy))
      cases hU with
      | @var _ _ U' q hq hkq hrU =>
        have := hst j i hjl hil (hvar j q hjl hq hkq) hij.symm
        rw [this, hp] at hq; injection hq with hq; subst hq; exact absurd hkq hk
      | @con _ _ A' U' q hq hkq haU hrU =>
        have Fi := hF i hil
        have Fj := hF j hjl
        have he : e (F (c i)) = e (F (c j)) := by rw [hr (F (c i)) i Fi.lt hil Fi.cls, hij, hr j (F (c j)) hjl Fj.lt Fj.cls.symm]
        obtain ⟨hh, hargs⟩ := hce _ _ p q hp hq he hk hkq
        have hlt : ∀ {f : Nat} {p : Nd}, N[f]? = some p → ∀ x ∈ p.args, x < N.length := by
          intro f p hp x hx
          have h1 := (hw _ p hp).1 x hx
          have h2 := (List.getElem?_eq_some_iff.1 hp).1
          omega
        rw [hrest U' hrU, iha haU (hlt hp) (hlt hq) hh.2.2 hargs, hh.1, hh.2.1]
theorem Stands.mem_cnt {F : Nat → Nat} {is : List Nat} {T : Fo} (h : Stands N c F is T) : ∀ x ∈ is, ∀ B, Stands N c F [x] B → B.cnt ≤ T.cnt := by
  induction is generalizing T with
  | nil => intro x hx; simp at hx
  | cons y is ih =>
    obtain ⟨A, C, rfl, h1, h2⟩ := Stands.split (is := [y]) (js := is) h
    intro x hx B hB
    rw [Fo.cnt_app]
    rcases List.mem_cons.1 hx with rfl | hx
    · rw [hB.unique h1]; omega
    · have := ih h2 x hx B hB; omega
open Classical in
/-- Two that are alike already: to make them one makes no cycle. -/
theorem alike_acyc {a b : Nat} {cl : Nat → Nat} (hw : Wf N) (hcl : Closed N c) (hc : ∀ i, i < N.length → c i < N.length ∧ c (c i) = c i) {F : Nat → Nat} (hF : ∀ i, i < N.length → Form N c (c i) (F (c i))) (hac : Acyc N c) (hal : AlikeIn N c a b) (hl : Least N c a b cl) : Acyc N cl := by
  obtain ⟨e, he, hst⟩ := hal
  have hex : ∀ i, i < N.length → ∃ T, Stands N c F [i] T := fun i hi => Stands.exists hw (fun i hi => (hc i hi).1) hF hac [i] (by simpa using hi)
  refine ⟨fun i => if h : ∃ T, Stands N c F [i] T then (Classical.choose h).cnt else 0, fun i j hi hj hij => ?_, fun i p hp x hx => ?_⟩
  · obtain ⟨T, hT⟩ := hex i hi
    obtain ⟨U, hU⟩ := hex j hj
    have hij' : e i = e j := hl.least e he i j hi hj hij
    have := alike_tree hw hcl hc hF he.resp he.closed hst hT hU (by simpa using hi) (by simpa using hj) rfl (fun k x y hx hy => by
      rcases k with _ | k
      · simp at hx hy; subst hx; subst hy; exact hij'
      · simp at hx)
    subst this
    have h1 : ∃ T, Stands N c F [i] T := ⟨T, hT⟩
    have h2 : ∃ T, Stands N c F [j] T := ⟨T, hU⟩
    simp only [dif_pos h1, dif_pos h2]
    rw [(Classical.choose_spec h1).unique hT, (Classical.choose_spec h2).unique hU]
  · have hil := (List.getElem?_eq_some_iff.1 hp).1
    have hxl : x < N.length := by have := (hw i p hp).1 x hx; omega
    obtain ⟨T, hT⟩ := hex i hil
    obtain ⟨U, hU⟩ := hex x hxl
    have h1 : ∃ T, Stands N c F [x] T := ⟨U, hU⟩
    have h2 : ∃ T, Stands N c F [i] T := ⟨T, hT⟩
    simp only [dif_pos h1, dif_pos h2]
    rw [(Classical.choose_spec h1).unique hU, (Classical.choose_spec h2).unique hT]
    have hpk : p.kind ≠ 1 := fun e => by rw [(hw i p hp).2 e] at hx; simp at hx
    obtain ⟨A, T', rfl, ha, hr⟩ := Stands.con_of hw hcl hF hil hp rfl hpk hT
    cases hr
    have := ha.mem_cnt x hx U hU
    simp only [Fo.cnt]; omega
/-- Again: what is one stays one. -/
theorem uni_again {a b : Nat} {err : Int} {cl : Nat → Nat} (ha : a < N.length) (hb : b < N.length) (hcl : Closed N c) (hac : Acyc N c) (h : c a = c b) (hu : UniSaid N c (a : Int) (b : Int) err cl) : err = 0 := by
  have hg : Good N c a b c := ⟨fun _ _ _ _ e => e, h, hcl⟩
  rcases hu with ⟨h1, _⟩ | ⟨_, ⟨h1, _⟩ | ⟨_, _, h1⟩ | ⟨_, _, ck, h1, h2⟩⟩
  · rw [allIn_two ha hb] at h1; cases h1
  · exact h1
  · exact absurd (by simpa using hg) (h1 c)
  · exact absurd (hac.of (h1.least c (by simpa using hg))) h2
/-- Refused: it wasn't alike. -/
theorem uni_refused {a b : Nat} {err : Int} {cl : Nat → Nat} (ha : a < N.length) (hb : b < N.length) (hw : Wf N) (hcl : Closed N c) (hc : ∀ i, i < N.length → c i < N.length ∧ c (c i) = c i) {F : Nat → Nat} (hF : ∀ i, i < N.length → Form N c (c i) (F (c i))) (hac : Acyc N c) (hu : UniSaid N c (a : Int) (b : Int) err cl) (h0 : err ≠ 0) : cl = c ∧ ¬ AlikeIn N c a b ∧ (err = 131 ∨ err = 130) := by
  rcases hu with ⟨h1, _⟩ | ⟨_, ⟨h1, _⟩ | ⟨h1, h2, h3⟩ | ⟨h1, h2, ck, h3, h4⟩⟩
  · rw [allIn_two ha hb] at h1; cases h1
  · exact absurd h1 h0
  · refine ⟨h2, ?_, .inl h1⟩
    rintro ⟨e, he, _⟩
    exact h3 e (by simpa using he)
  · refine ⟨h2, fun hal => ?_, .inr h1⟩
    simp only [Int.toNat_natCast] at h3
    exact h4 (alike_acyc hw hcl hc hF hac hal h3)
end
end Go.Proofs.Ytafpbdmggnfdnaa

/- Both stores asked: sizes, types, what is alike. -/
namespace Go.Proofs.Ytafpbdmggnfdnaa
open Go.RowKit
set_option linter.unusedVariables false

section
variable {M : Nat → Prop} {v : Value} {N : List Nd} {c : Nat → Nat} {w : World}
theorem RLive.ok (h : RLive M v N c w) : Wf N ∧ Closed N c ∧ Acyc N c := by
  obtain ⟨⟨ad, R, d, h1, rfl, h4, h5, h6⟩, h7⟩ := h
  exact ⟨h4.inv.wf, h4.closed, h4.acyc⟩
theorem RLive.tree (h : RLive M v N c w) {is : List Nat} {T : Fo} (hi : ∀ i ∈ is, i < N.length) (hT : TreeOf N c is T) : Stands N c idF is T := by
  obtain ⟨k1, k2, k3⟩ := h.ok
  obtain ⟨T', h'⟩ := Stands.exists (F := idF) k1 (fun i hi => (h.roots i hi).1) (fun i hi => h.forms i hi) k3 is hi
  have := TreeOf.unique k1 k2 (fun i hi => h.roots i hi) hi hT ⟨idF, fun i hi => h.forms i hi, h'⟩
  rw [this]; exact h'
end

/-- What holds of a store's classes. -/
structure ClsOk (N : List Nd) (c : Nat → Nat) : Prop where
  wf : Wf N
  closed : Closed N c
  roots : ∀ i, i < N.length → c i < N.length ∧ c (c i) = c i
  trees : ∀ is, (∀ i ∈ is, i < N.length) → ∃ T, TreeOf N c is T
theorem Live.cls {M : Nat → Prop} {g : Nat} {N : List Nd} {c : Nat → Nat} {w : World} (h : Live M g N c w) : ClsOk N c := ⟨h.wf, h.closed, h.roots, h.tree⟩
theorem RLive.cls {M : Nat → Prop} {v : Value} {N : List Nd} {c : Nat → Nat} {w : World} (h : RLive M v N c w) : ClsOk N c := by
  obtain ⟨k1, k2, k3⟩ := h.ok
  refine ⟨k1, k2, h.roots, fun is hi => ?_⟩
  obtain ⟨T', h'⟩ := Stands.exists (F := idF) k1 (fun i hi => (h.roots i hi).1) (fun i hi => h.forms i hi) k3 is hi
  exact ⟨T', idF, fun i hi => h.forms i hi, h'⟩
theorem allIn_one {n : Nat} {i : Int} : allIn n [i] = inB n i := by simp [allIn, inB]
theorem inB_nat {n : Nat} {i : Int} (h : inB n i = true) : i = (i.toNat : Int) ∧ i.toNat < n := by unfold inB at h; simp at h; omega
/-- A node's size. -/
def SzIs (N : List Nd) (c : Nat → Nat) (i : Int) (sz : Nat) : Prop := (inB N.length i = false ∧ sz = 0) ∨ (inB N.length i = true ∧ ∃ T, TreeOf N c [i.toNat] T ∧ sz = capped T.cnt)
theorem SzIs.ex {N : List Nd} {c : Nat → Nat} (h : ClsOk N c) (i : Int) : ∃ sz, SzIs N c i sz ∧ sz ≤ 301 := by
  cases hi : inB N.length i
  · exact ⟨0, .inl ⟨hi, rfl⟩, by omega⟩
  · obtain ⟨T, hT⟩ := h.trees [i.toNat] (by simpa using (inB_nat hi).2)
    exact ⟨_, .inr ⟨hi, T, hT, rfl⟩, capped_le _⟩
theorem SzIs.same {N : List Nd} {c c' : Nat → Nat} (h : ClsOk N c) (h' : ClsOk N c') (hs : SameC N c c') {i : Int} {sz : Nat} (k : SzIs N c i sz) : SzIs N c' i sz := by
  rcases k with k | ⟨k1, T, hT, k2⟩
  · exact .inl k
  · have hi : ∀ x ∈ [i.toNat], x < N.length := by simpa using (inB_nat k1).2
    obtain ⟨T', hT'⟩ := h'.trees [i.toNat] hi
    exact .inr ⟨k1, T', hT', by rw [k2, (tree_same h.wf h.closed hs h.roots hi hT hT').1]⟩
def bigIn (N : List Nd) (c : Nat → Nat) (xs : List Int) : Prop := ∃ x ∈ xs.map Int.toNat, ∃ B, TreeOf N c [x] B ∧ 300 < B.cnt
/-- What Types answers: an error, and what the types are. -/
inductive TyCase (N : List Nd) (c : Nat → Nat) (xs : List Int) : Int → Fo → Prop where
  | unknown (h : allIn N.length xs = false) : TyCase N c xs 221 .nil
  | big (h : allIn N.length xs = true) (hb : bigIn N c xs) : TyCase N c xs 120 .nil
  | fit (h : allIn N.length xs = true) (hb : ¬ bigIn N c xs) (T : Fo) (hT : TreeOf N c (xs.map Int.toNat) T) : TyCase N c xs 0 (ren T)
theorem ren_cnt (T : Fo) : (ren T).cnt = T.cnt := Fo.cnt_mapv _ _
theorem ren_len (T : Fo) : (ren T).len = T.len := Fo.len_mapv _ _
theorem TreeOf.len {N : List Nd} {c : Nat → Nat} {is : List Nat} {T : Fo} (h : TreeOf N c is T) : T.len = is.length := by
  obtain ⟨F, -, h⟩ := h
  exact h.len
theorem TreeOf.cnt_le {N : List Nd} {c : Nat → Nat} {is : List Nat} {T : Fo} (hok : ClsOk N c) (hi : ∀ i ∈ is, i < N.length) (h : TreeOf N c is T) (hb : ∀ x ∈ is, ∀ B, TreeOf N c [x] B → B.cnt ≤ 300) : T.cnt ≤ 300 * is.length := by
  obtain ⟨F, hF, h⟩ := h
  exact h.cnt_le (fun x hx B hB => hb x hx B ⟨F, hF, hB⟩)
theorem TyCase.ex {N : List Nd} {c : Nat → Nat} (h : ClsOk N c) (xs : List Int) : ∃ err F, TyCase N c xs err F ∧ F.cnt ≤ 300 * xs.length := by
  cases ha : allIn N.length xs
  · exact ⟨221, .nil, .unknown ha, by simp [Fo.cnt]⟩
  · by_cases hb : bigIn N c xs
    · exact ⟨120, .nil, .big ha hb, by simp [Fo.cnt]⟩
    · obtain ⟨T, hT⟩ := h.trees (xs.map Int.toNat) (cast_toNat ha).2
      refine ⟨0, ren T, .fit ha hb T hT, ?_⟩
      rw [ren_cnt]
      have := hT.cnt_le h (cast_toNat ha).2 (fun x hx B hB => Nat.le_of_not_lt (fun hc => hb ⟨x, hx, B, hB, hc⟩))
      rwa [List.length_map] at this
theorem bigIn_same {N : List Nd} {c c' : Nat → Nat} (h : ClsOk N c) (h' : ClsOk N c') (hs : SameC N c c') {xs : List Int} (ha : allIn N.length xs = true) (k : bigIn N c xs) : bigIn N c' xs := by
  obtain ⟨x, hx, B, hB, hc⟩ := k
  have hi : ∀ y ∈ [x], y < N.length := by
    intro y hy
    simp at hy; subst hy
    exact (cast_toNat ha).2 y hx
  obtain ⟨B', hB'⟩ := h'.trees [x] hi
  exact ⟨x, hx, B', hB', by rw [(tree_same h.wf h.closed hs h.roots hi hB hB').1]; exact hc⟩
theorem TyCase.same {N : List Nd} {c c' : Nat → Nat} (h : ClsOk N c) (h' : ClsOk N c') (hs : SameC N c c') {xs : List Int} {err : Int} {F : Fo} (k : TyCase N c xs err F) : TyCase N c' xs err F := by
  cases k with
  | unknown ha => exact .unknown ha
  | big ha hb => exact .big ha (bigIn_same h h' hs ha hb)
  | fit ha hb T hT =>
    obtain ⟨T', hT'⟩ := h'.trees (xs.map Int.toNat) (cast_toNat ha).2
    rw [← (tree_same h.wf h.closed hs h.roots (cast_toNat ha).2 hT hT').2]
    exact .fit ha (fun hb' => hb (bigIn_same h' h hs.symm ha hb')) T' hT'
/-- Alike, or not. -/
def AlIs (N : List Nd) (c : Nat → Nat) (a : Nat) (b : Int) (r : Bool) : Prop := (inB N.length b = false ∧ r = false) ∨ (inB N.length b = true ∧ (r = true ↔ AlikeIn N c a b.toNat))
open Classical in
theorem AlIs.ex (N : List Nd) (c : Nat → Nat) (a : Nat) (b : Int) : ∃ r, AlIs N c a b r := by
  cases hb : inB N.length b
  · exact ⟨false, .inl ⟨hb, rfl⟩⟩
  · exact ⟨decide (AlikeIn N c a b.toNat), .inr ⟨hb, by simp⟩⟩
theorem alikeIn_same {N : List Nd} {c c' : Nat → Nat} (hs : SameC N c c') {a b : Nat} (h : AlikeIn N c a b) : AlikeIn N c' a b := by
  obtain ⟨e, he, hst⟩ := h
  refine ⟨e, he.of hs.2, fun i j hi hj hv hij => ?_⟩
  refine hs.1 i j hi hj (hst i j hi hj (fun k p hk hki => hv k p hk ?_) hij)
  exact hs.1 k i (List.getElem?_eq_some_iff.1 hk).1 hi hki
theorem AlIs.same {N : List Nd} {c c' : Nat → Nat} (hs : SameC N c c') {a : Nat} {b : Int} {r : Bool} (h : AlIs N c a b r) : AlIs N c' a b r := by
  rcases h with h | ⟨h1, h2⟩
  · exact .inl h
  · exact .inr ⟨h1, h2.trans ⟨alikeIn_same hs, alikeIn_same hs.symm⟩⟩
/-- Types in new memory, with an error. -/
def TyPost (w : World) (err : Int) (F : Fo) (e : Ending) (w' : World) : Prop :=
  ∃ A c, e = .returned (.tuple #[.slice A F.len c, .int .i64 err]) ∧ FoAt w' (fun b => w.heap.size ≤ b ∧ b < w'.heap.size) A F ∧ Below w.heap.size w w'
theorem TyPost.no {w w' : World} {err : Int} {e : Ending} (h : TypesNo w err e w') : TyPost w err .nil e w' := ⟨none, 0, h.1, .inl rfl, h.2⟩
theorem TyPost.yes {w w' : World} {n : Nat} {F : Fo} {e : Ending} (h : TypesPost w n F e w') (hn : F.len = n) : TyPost w 0 F e w' := by
  obtain ⟨A, c, rfl, h1, h2⟩ := h
  exact ⟨A, c, by rw [hn], h1, h2⟩
theorem live_types_case {M : Nat → Prop} {g : Nat} {N : List Nd} {c : Nat → Nat} {w : World} (h : Live M g N c w) (A : Option Addr) (cap : Nat) (xs : List Int) (hA : Ints w A xs) (hlen : xs.length ≤ 1000000) {err : Int} {F : Fo} (hc : TyCase N c xs err F) :
    Calls Try.prog 15 #[.pointer (some ⟨g, 0, none⟩), .slice A xs.length cap] w (TyPost w err F) := by
  cases hc with
  | unknown ha => exact (live_types_no h A cap xs hA hlen ha).mono fun _ _ k => TyPost.no k
  | big ha hb =>
    have h1 := cast_toNat ha
    have h2 := live_types_big h A cap (xs.map Int.toNat) (by unfold Nats; rw [h1.1]; exact hA) h1.2 (by simpa using hlen) hb
    rw [List.length_map] at h2
    exact h2.mono fun _ _ k => TyPost.no k
  | fit ha hb T hT =>
    have h1 := cast_toNat ha
    have h2 := live_types h A cap (xs.map Int.toNat) (by unfold Nats; rw [h1.1]; exact hA) h1.2 (by simpa using hlen) T hT (fun x hx B hB => Nat.le_of_not_lt (fun hc => hb ⟨x, hx, B, hB, hc⟩))
    rw [List.length_map] at h2
    exact h2.mono fun _ _ k => TyPost.yes k (by rw [ren_len, hT.len, List.length_map])
theorem rlive_types_case {M : Nat → Prop} {v : Value} {N : List Nd} {c : Nat → Nat} {w : World} (h : RLive M v N c w) (A : Option Addr) (cap : Nat) (xs : List Int) (hA : Ints w A xs) (hlen : xs.length ≤ 1000) {err : Int} {F : Fo} (hc : TyCase N c xs err F) :
    Calls Try.prog 17 #[.agg #[v], .slice A xs.length cap] w (TyPost w err F) := by
  have htr := fun (is : List Nat) (T : Fo) hi hT => h.tree (is := is) (T := T) hi hT
  have hcls := h.cls
  have hfo := h.forms
  obtain ⟨⟨ad, R, d, k1, rfl, k4, k5, k6⟩, k7⟩ := h
  cases hc with
  | unknown ha => exact (rtypes_no k1 A cap xs hA (by omega) ha).mono fun _ _ k => TyPost.no k
  | big ha hb =>
    have h1 := cast_toNat ha
    obtain ⟨T, hT⟩ := hcls.trees _ h1.2
    have h2 := rtypes_any k1 k4.inv A cap (xs.map Int.toNat) (by unfold Nats; rw [h1.1]; exact hA) h1.2 (by simpa using hlen) T (htr _ _ h1.2 hT)
    rw [List.length_map] at h2
    refine h2.mono fun _ _ k => TyPost.no (k.2 ?_)
    obtain ⟨x, hx, B, hB, hc⟩ := hb
    exact ⟨x, hx, B, htr _ _ (by intro i hi; simp at hi; subst hi; exact h1.2 i hx) hB, hc⟩
  | fit ha hb T hT =>
    have h1 := cast_toNat ha
    have h2 := rtypes_any k1 k4.inv A cap (xs.map Int.toNat) (by unfold Nats; rw [h1.1]; exact hA) h1.2 (by simpa using hlen) T (htr _ _ h1.2 hT)
    rw [List.length_map] at h2
    refine h2.mono fun _ _ k => TyPost.yes (k.1 ?_) (by rw [ren_len, hT.len, List.length_map])
    intro x hx B hB
    exact Nat.le_of_not_lt (fun hc => hb ⟨x, hx, B, ⟨idF, fun i hi => hfo i hi, hB⟩, hc⟩)
theorem rlive_size {M : Nat → Prop} {v : Value} {N : List Nd} {c : Nat → Nat} {w : World} (h : RLive M v N c w) (i : Int) (sz : Nat) (hs : SzIs N c i sz) :
    Calls Try.prog 14 #[.agg #[v], .int .i64 i] w fun e w' => e = .returned (.int .i64 (sz : Int)) ∧ Below w.heap.size w w' := by
  have htr := fun (is : List Nat) (T : Fo) hi hT => h.tree (is := is) (T := T) hi hT
  obtain ⟨⟨ad, R, d, k1, rfl, k4, k5, k6⟩, k7⟩ := h
  rcases hs with ⟨h1, rfl⟩ | ⟨h1, T, hT, rfl⟩
  · exact rSize_no k1 i h1
  · have h2 := inB_nat h1
    have := rSize_yes k1 k4.inv i.toNat h2.2 T (htr _ _ (by simpa using h2.2) hT)
    rwa [← h2.1] at this
theorem live_size' {M : Nat → Prop} {g : Nat} {N : List Nd} {c : Nat → Nat} {w : World} (h : Live M g N c w) (i : Int) (sz : Nat) (hs : SzIs N c i sz) :
    Calls Try.prog 13 #[.pointer (some ⟨g, 0, none⟩), .int .i64 i] w fun e w' => e = .returned (.int .i64 (sz : Int)) ∧ Below w.heap.size w w' := by
  refine live_size h i sz ?_
  rcases hs with ⟨h1, rfl⟩ | ⟨h1, T, hT, rfl⟩
  · exact .inl ⟨by rw [allIn_one]; exact h1, rfl⟩
  · exact .inr ⟨by rw [allIn_one]; exact h1, T, hT, rfl⟩
def BoolAt (w : World) (r : Bool) (e : Ending) (w' : World) : Prop := e = .returned (.bool r) ∧ Below w.heap.size w w'
theorem rlive_alike {M : Nat → Prop} {v : Value} {N : List Nd} {c : Nat → Nat} {w : World} (h : RLive M v N c w) (a : Nat) (b : Int) (ha : a < N.length) (r : Bool) (hr : AlIs N c a b r) :
    Calls Try.prog 20 #[.agg #[v], .int .i64 (a : Int), .int .i64 b] w (BoolAt w r) := by
  obtain ⟨⟨ad, R, d, k1, rfl, k4, k5, k6⟩, k7⟩ := h
  rcases hr with ⟨h1, rfl⟩ | ⟨h1, h2⟩
  · exact ralike_no k1 a b ha h1
  · have h3 := inB_nat h1
    have := ralike_any k1 k4 a b.toNat ha h3.2
    rw [← h3.1] at this
    refine this.mono ?_
    rintro e w' ⟨⟨r', rfl, hr'⟩, hb⟩
    have : r' = r := Bool.eq_iff_iff.2 (hr'.trans h2.symm)
    subst this
    exact ⟨rfl, hb⟩
set_option maxHeartbeats 1000000 in
theorem alike_no {w : World} {base : Nat} {L : Lay} {S : PS} (h : St w base L S) (a b : Int) (hall : allIn S.nodes.length [a, b] = false) :
    Calls Try.prog 19 #[.pointer (some ⟨L.g, 0, none⟩), .int .i64 a, .int .i64 b] w fun e w' => e = .returned (.bool false) ∧ Below w.heap.size w w' := by
  have hb1 : Below w.heap.size w (w.alloc (.cells #[.int .i64 a, .int .i64 b] 3)) := (Below.refl _ _).alloc (Nat.le_refl _) _
  have HK := hide (known_any (h.later hb1) (some ⟨w.heap.size, 0, none⟩) 2 [a, b] (ints_two w a b _) (by simp))
  rw [hall] at HK
  have Hb1 := hide hb1
  clear h hb1 hall
  go_enter Try.func19, Try.ntmps19
  go_wp2_with fail
  refine HK.out.mono ?_
  rintro e w1 ⟨rfl, rfl⟩
  go_wp2
  go_ret
  exact ⟨rfl, Hb1.out⟩
section
variable {K F : Nat → Prop} {w0 w w' : World} {g : Nat} {N N' : List Nd} {c c' : Nat → Nat} {v : Value}
theorem Two.cls (h : Two K w0 g N c v N' c' w) : ClsOk N c ∧ ClsOk N' c' := by
  obtain ⟨⟨M, M', h1, h2, h3, h4⟩, h5, h6⟩ := h
  exact ⟨h1.cls, h2.cls⟩
theorem two_size (h : Two K w0 g N c v N' c' w) (i : Int) (sz : Nat) (hs : SzIs N c i sz) :
    Calls Try.prog 13 #[.pointer (some ⟨g, 0, none⟩), .int .i64 i] w fun e w' => e = .returned (.int .i64 (sz : Int)) ∧ Below w.heap.size w w' := by
  obtain ⟨⟨M, M', h1, h2, h3, h4⟩, h5, h6⟩ := h
  exact live_size' h1 i sz hs
theorem twor_size (h : Two K w0 g N c v N' c' w) (i : Int) (sz : Nat) (hs : SzIs N' c' i sz) :
    Calls Try.prog 14 #[.agg #[v], .int .i64 i] w fun e w' => e = .returned (.int .i64 (sz : Int)) ∧ Below w.heap.size w w' := by
  obtain ⟨⟨M, M', h1, h2, h3, h4⟩, h5, h6⟩ := h
  exact rlive_size h2 i sz hs
theorem two_types (h : Two K w0 g N c v N' c' w) (A : Option Addr) (cap : Nat) (xs : List Int) (hA : Ints w A xs) (hlen : xs.length ≤ 1000000) {err : Int} {F : Fo} (hc : TyCase N c xs err F) :
    Calls Try.prog 15 #[.pointer (some ⟨g, 0, none⟩), .slice A xs.length cap] w (TyPost w err F) := by
  obtain ⟨⟨M, M', h1, h2, h3, h4⟩, h5, h6⟩ := h
  exact live_types_case h1 A cap xs hA hlen hc
theorem twor_types (h : Two K w0 g N c v N' c' w) (A : Option Addr) (cap : Nat) (xs : List Int) (hA : Ints w A xs) (hlen : xs.length ≤ 1000) {err : Int} {F : Fo} (hc : TyCase N' c' xs err F) :
    Calls Try.prog 17 #[.agg #[v], .slice A xs.length cap] w (TyPost w err F) := by
  obtain ⟨⟨M, M', h1, h2, h3, h4⟩, h5, h6⟩ := h
  exact rlive_types_case h2 A cap xs hA hlen hc
theorem twor_alike (h : Two K w0 g N c v N' c' w) (a : Nat) (b : Int) (ha : a < N'.length) (r : Bool) (hr : AlIs N' c' a b r) :
    Calls Try.prog 20 #[.agg #[v], .int .i64 (a : Int), .int .i64 b] w (BoolAt w r) := by
  obtain ⟨⟨M, M', h1, h2, h3, h4⟩, h5, h6⟩ := h
  exact rlive_alike h2 a b ha r hr
theorem two_alike_is (h : Two K w0 g N c v N' c' w) (a : Nat) (b : Int) (ha : a < N.length) (r : Bool) (hr : AlIs N c a b r) :
    Calls Try.prog 19 #[.pointer (some ⟨g, 0, none⟩), .int .i64 (a : Int), .int .i64 b] w fun e w' => e = .returned (.bool r) ∧ Two K w0 g N c v N' c' w' ∧ Keeps K w w' := by
  rcases hr with ⟨h1, rfl⟩ | ⟨h1, h2⟩
  · have hz : ∀ w1, Below w.heap.size w w1 → Two K w0 g N c v N' c' w1 ∧ Keeps K w w1 := fun w1 hb => ⟨h.later hb, hb.size, fun b hK => hb.block b (h.kept b hK)⟩
    obtain ⟨⟨M, M', h1', h2', h3, h4⟩, h5, h6⟩ := h
    obtain ⟨⟨L, S, d, k1, k2, k3, k4, k5, k6⟩, k7⟩ := h1'
    subst k1; subst k3
    refine (alike_no k2 (a : Int) b (by rw [allIn_inB, h1]; simp)).mono ?_
    rintro e w1 ⟨rfl, hb⟩
    exact ⟨rfl, hz w1 hb⟩
  · have h3 := inB_nat h1
    have := two_alike h a b.toNat ha h3.2
    rw [← h3.1] at this
    refine this.mono ?_
    rintro e w' ⟨⟨r', rfl, hr'⟩, hb⟩
    have : r' = r := Bool.eq_iff_iff.2 (hr'.trans h2.symm)
    subst this
    exact ⟨rfl, hb⟩
end
end Go.Proofs.Ytafpbdmggnfdnaa

/- Plain: stores that have grown; trees with other variables. -/
namespace Go.Proofs.Ytafpbdmggnfdnaa
set_option linter.unusedVariables false

/-- Nodes more, each a class of its own. -/
structure Grown (N : List Nd) (c : Nat → Nat) (N' : List Nd) (c' : Nat → Nat) : Prop where
  ext : ∃ E, N' = N ++ E
  old : ∀ i, i < N.length → c' i = c i
  new : ∀ j, N.length ≤ j → j < N'.length → c' j = j
theorem Grown.refl (N : List Nd) (c : Nat → Nat) : Grown N c N c := ⟨⟨[], by simp⟩, fun _ _ => rfl, fun j h1 h2 => by omega⟩
theorem Grown.len {N N' : List Nd} {c c' : Nat → Nat} (h : Grown N c N' c') : N.length ≤ N'.length := by
  obtain ⟨E, rfl⟩ := h.ext
  simp
theorem Grown.trans {N N' N2 : List Nd} {c c' c2 : Nat → Nat} (h : Grown N c N' c') (k : Grown N' c' N2 c2) : Grown N c N2 c2 := by
  have hl := h.len; have kl := k.len
  obtain ⟨E, hE⟩ := h.ext
  obtain ⟨G, hG⟩ := k.ext
  refine ⟨⟨E ++ G, by rw [hG, hE, List.append_assoc]⟩, fun i hi => (k.old i (by omega)).trans (h.old i hi), fun j h1 h2 => ?_⟩
  by_cases hj : j < N'.length
  · rw [k.old j hj]; exact h.new j h1 hj
  · exact k.new j (by omega) h2
theorem Grown.add (N : List Nd) (c : Nat → Nat) (p : Nd) : Grown N c (N ++ [p]) (addC N.length c) :=
  ⟨⟨[p], rfl⟩, fun i hi => addC_old hi, fun j h1 h2 => by
    have : j = N.length := by simp at h2; omega
    rw [this]; exact addC_new⟩
theorem Grown.at_ {N N' : List Nd} {c c' : Nat → Nat} (h : Grown N c N' c') {i : Nat} {p : Nd} (hp : N[i]? = some p) : N'[i]? = some p := by
  obtain ⟨E, rfl⟩ := h.ext
  rw [List.getElem?_append_left (List.getElem?_eq_some_iff.1 hp).1]; exact hp
/-- The forms of a store that has grown. -/
theorem Grown.forms {N N' : List Nd} {c c' F : Nat → Nat} (h : Grown N c N' c') (hc : ∀ i, i < N.length → c i < N.length) (hF : ∀ i, i < N.length → Form N c (c i) (F (c i))) :
    ∀ i, i < N'.length → Form N' c' (c' i) ((fun x => if x < N.length then F x else x) (c' i)) := by
  intro i hi
  have hl := h.len
  by_cases hil : i < N.length
  · rw [h.old i hil]
    simp only [if_pos (hc i hil)]
    have hf := hF i hil
    refine ⟨Nat.lt_of_lt_of_le hf.lt hl, by rw [h.old _ hf.lt]; exact hf.cls, fun j p q hj hcj hk hq => ?_⟩
    have hjl : j < N.length := by
      by_cases hjl : j < N.length
      · exact hjl
      · have := h.new j (by omega) (List.getElem?_eq_some_iff.1 hj).1
        have := hc i hil; omega
    rw [h.old j hjl] at hcj
    obtain ⟨E, hE⟩ := h.ext
    rw [hE, List.getElem?_append_left hjl] at hj
    rw [hE, List.getElem?_append_left hf.lt] at hq
    exact hf.head j p q hj hcj hk hq
  · rw [h.new i (by omega) hi]
    simp only [if_neg hil]
    refine ⟨hi, h.new i (by omega) hi, fun j p q hj hcj hk hq => ?_⟩
    have hjl : ¬ j < N.length := fun hjl => by
      have h1 := h.old j hjl; have h2 := hc j hjl; omega
    have hji : j = i := by
      have := h.new j (by omega) (List.getElem?_eq_some_iff.1 hj).1; omega
    subst hji
    rw [hj] at hq; injection hq with hq; rw [← hq]; exact hk
theorem Stands.grown {N N' : List Nd} {c c' F : Nat → Nat} (h : Grown N c N' c') (hw : Wf N) (hc : ∀ i, i < N.length → c i < N.length) {is : List Nat} {T : Fo} (hT : Stands N c F is T) : (∀ i ∈ is, i < N.length) → Stands N' c' (fun x => if x < N.length then F x else x) is T := by
  induction hT with
  | nil => intro _; exact .nil
  | @var i is T p hp hk hr ih =>
    intro hi
    have hil := hi i (by simp)
    have e : c' i = c i := h.old i hil
    have := Stands.var (N := N') (c := c') (F := fun x => if x < N.length then F x else x) (i := i) (p := p) (by rw [e]; simp only [if_pos (hc i hil)]; exact h.at_ hp) hk (ih (fun j hj => hi j (by simp [hj])))
    rwa [e] at this
  | @con i is A T p hp hk ha hr iha ih =>
    intro hi
    have hil := hi i (by simp)
    have e : c' i = c i := h.old i hil
    exact .con (by rw [e]; simp only [if_pos (hc i hil)]; exact h.at_ hp) hk (iha (fun j hj => by
      have h1 := (hw _ p hp).1 j hj
      have h2 := (List.getElem?_eq_some_iff.1 hp).1
      omega)) (ih (fun j hj => hi j (by simp [hj])))
theorem TreeOf.grown {N N' : List Nd} {c c' : Nat → Nat} (hok : ClsOk N c) (h : Grown N c N' c') {is : List Nat} {T : Fo} (hi : ∀ i ∈ is, i < N.length) (hT : TreeOf N c is T) : TreeOf N' c' is T := by
  obtain ⟨F, hF, hS⟩ := hT
  exact ⟨_, h.forms (fun i hi => (hok.roots i hi).1) hF, hS.grown h hok.wf (fun i hi => (hok.roots i hi).1) hi⟩
theorem TreeOf.app {N : List Nd} {c : Nat → Nat} {is js : List Nat} {T U : Fo} (hok : ClsOk N c) (hi : ∀ i ∈ is, i < N.length) (hj : ∀ j ∈ js, j < N.length) (h : TreeOf N c is T) (k : TreeOf N c js U) : TreeOf N c (is ++ js) (T.app U) := by
  obtain ⟨V, hV⟩ := hok.trees (is ++ js) (fun x hx => by rcases List.mem_append.1 hx with h | h; exact hi x h; exact hj x h)
  obtain ⟨F, hF, hS⟩ := hV
  obtain ⟨A, B, rfl, hA, hB⟩ := hS.split
  rw [TreeOf.unique hok.wf hok.closed hok.roots hi h ⟨F, hF, hA⟩, TreeOf.unique hok.wf hok.closed hok.roots hj k ⟨F, hF, hB⟩]
  exact ⟨F, hF, hS⟩
theorem TreeOf.split {N : List Nd} {c : Nat → Nat} {is js : List Nat} {T : Fo} (h : TreeOf N c (is ++ js) T) : ∃ A B, T = A.app B ∧ TreeOf N c is A ∧ TreeOf N c js B := by
  obtain ⟨F, hF, hS⟩ := h
  obtain ⟨A, B, e, hA, hB⟩ := hS.split
  exact ⟨A, B, e, ⟨F, hF, hA⟩, ⟨F, hF, hB⟩⟩
theorem TreeOf.nil {N : List Nd} {c : Nat → Nat} (hok : ClsOk N c) : TreeOf N c [] .nil := by
  obtain ⟨T, F, hF, hS⟩ := hok.trees [] (by simp)
  cases hS
  exact ⟨F, hF, .nil⟩
theorem TreeOf.congr {N : List Nd} {c : Nat → Nat} {is js : List Nat} {T : Fo} (h : TreeOf N c is T) (hl : is.length = js.length) (hm : ∀ (k i j : Nat), is[k]? = some i → js[k]? = some j → c i = c j) : TreeOf N c js T := by
  obtain ⟨F, hF, hS⟩ := h
  exact ⟨F, hF, hS.congr hl hm⟩
theorem TreeOf.root {N : List Nd} {c : Nat → Nat} {x : Nat} {T : Fo} (h : TreeOf N c [x] T) (hc : c (c x) = c x) : TreeOf N c [c x] T := by
  obtain ⟨F, hF, hS⟩ := h
  exact ⟨F, hF, hS.root hc⟩
theorem TreeOf.uniq {N : List Nd} {c : Nat → Nat} (hok : ClsOk N c) {is : List Nat} {T U : Fo} (hi : ∀ i ∈ is, i < N.length) (h : TreeOf N c is T) (k : TreeOf N c is U) : T = U := TreeOf.unique hok.wf hok.closed hok.roots hi h k
theorem TreeOf.vars_ok {N : List Nd} {c : Nat → Nat} (hok : ClsOk N c) {is : List Nat} {T : Fo} (hi : ∀ i ∈ is, i < N.length) (h : TreeOf N c is T) : ∀ v ∈ T.vars, v < N.length ∧ c v = v := by
  obtain ⟨F, hF, hS⟩ := h
  exact hS.roots hok.wf hok.roots hi
/-- A new variable, a new type of nodes. -/
theorem tree_new_var {N : List Nd} {c : Nat → Nat} (hok : ClsOk (N ++ [varNd]) (addC N.length c)) (hc : ∀ i, i < N.length → c i < N.length) : TreeOf (N ++ [varNd]) (addC N.length c) [N.length] (.var N.length .nil) := by
  obtain ⟨T, F, hF, hS⟩ := hok.trees [N.length] (by simp)
  have hf := hF N.length (by simp)
  rw [addC_new] at hf
  have e : F N.length = N.length := by
    have h1 := hf.cls; have h2 := hf.lt
    by_cases hl : F N.length < N.length
    · rw [addC_old hl] at h1; have := hc _ hl; omega
    · simp at h2; omega
  have := Stands.var (N := N ++ [varNd]) (c := addC N.length c) (F := F) (i := N.length) (p := varNd) (by rw [addC_new, e]; simp) rfl .nil
  rw [addC_new] at this
  exact ⟨F, hF, this⟩
theorem tree_new_con {N : List Nd} {c : Nat → Nat} {p : Nd} {A : Fo} (hok0 : ClsOk N c) (hok : ClsOk (N ++ [p]) (addC N.length c)) (hk : p.kind ≠ 1) (hp : ∀ y ∈ p.args, y < N.length) (hA : TreeOf N c p.args A) : TreeOf (N ++ [p]) (addC N.length c) [N.length] (.con p.kind p.name A .nil) := by
  have hA' := hA.grown hok0 (Grown.add N c p) hp
  obtain ⟨F, hF, hS⟩ := hA'
  have hf := hF N.length (by simp)
  rw [addC_new] at hf
  have e : F N.length = N.length := by
    have h1 := hf.cls; have h2 := hf.lt
    by_cases hl : F N.length < N.length
    · rw [addC_old hl] at h1; have := (hok0.roots _ hl).1; omega
    · simp at h2; omega
  exact ⟨F, hF, .con (by rw [addC_new, e]; simp) hk hS .nil⟩
/-- What copies have been made: of these roots, those nodes. -/
def MapOk (N : List Nd) (c σ : Nat → Nat) (mp : Nat → Option Nat) : Prop :=
  ∀ r v, mp r = some v → r < N.length ∧ c r = r ∧ v < N.length ∧ c v = v ∧ ∃ T, TreeOf N c [r] T ∧ TreeOf N c [v] (T.mapv σ)
theorem MapOk.grown {N N' : List Nd} {c c' σ : Nat → Nat} {mp : Nat → Option Nat} (h : MapOk N c σ mp) (hok : ClsOk N c) (hg : Grown N c N' c') : MapOk N' c' σ mp := by
  intro r v hr
  obtain ⟨h1, h2, h3, h4, T, h5, h6⟩ := h r v hr
  have hl := hg.len
  exact ⟨by omega, by rw [hg.old r h1]; exact h2, by omega, by rw [hg.old v h3]; exact h4, T, h5.grown hok hg (by simpa using h1), h6.grown hok hg (by simpa using h3)⟩
theorem MapOk.put {N : List Nd} {c σ : Nat → Nat} {mp : Nat → Option Nat} (h : MapOk N c σ mp) {r v : Nat} {T : Fo} (h1 : r < N.length) (h2 : c r = r) (h3 : v < N.length) (h4 : c v = v) (h5 : TreeOf N c [r] T) (h6 : TreeOf N c [v] (T.mapv σ)) : MapOk N c σ (updO mp r (some v)) := by
  intro s u hs
  by_cases e : s = r
  · subst e
    rw [updO_same] at hs
    injection hs with hs
    subst hs
    exact ⟨h1, h2, h3, h4, T, h5, h6⟩
  · rw [updO_other _ _ _ _ e] at hs
    exact h s u hs
theorem Fo.mapv_same {f : Nat → Nat} (T : Fo) (h : ∀ v ∈ T.vars, f v = v) : T.mapv f = T := by
  have h1 := T.mapv_congr (f := f) (g := fun v => v) h
  rw [h1]
  clear h1 h
  induction T with
  | nil => rfl
  | var n r ih => simp [Fo.mapv, ih]
  | con k m a r iha ih => simp [Fo.mapv, iha, ih]
end Go.Proofs.Ytafpbdmggnfdnaa

/- A store of the program's: what it may write (Wr) and what it reads alone (Rd); find, form, add, Var. -/
namespace Go.Proofs.Ytafpbdmggnfdnaa
open Go.RowKit
set_option linter.unusedVariables false

structure LiveF (Wr Rd : Nat → Prop) (g : Nat) (N : List Nd) (c : Nat → Nat) (w : World) : Prop where
  out : ∃ L S d, L.g = g ∧ St w 0 L S ∧ S.nodes = N ∧ Ok S c d ∧ (∀ b, L.fp b → Wr b) ∧ ∀ (i : Nat) (a : Option Addr × Nat), L.ad[i]? = some a → ∀ x, a.1 = some x → Rd x.block
  ltW : ∀ b, Wr b → b < w.heap.size
  ltR : ∀ b, Rd b → b < w.heap.size
  apart : ∀ b, Rd b → ¬ Wr b
section
variable {Wr Rd F : Nat → Prop} {g : Nat} {N : List Nd} {c : Nat → Nat} {w w' : World}
theorem LiveF.keep (h : LiveF Wr Rd g N c w) (ho : Only F w w') (hF : ∀ b, F b → ¬ Wr b ∧ ¬ Rd b) : LiveF Wr Rd g N c w' := by
  obtain ⟨⟨L, S, d, h1, h2, h3, h4, h5, h6⟩, h7, h8, h9⟩ := h
  exact ⟨⟨L, S, d, h1, h2.only ho (fun b hb _ hf => (hF b hb).1 (h5 b hf)) (fun i a ha x hx hb => (hF _ hb).2 (h6 i a ha x hx)), h3, h4, h5, h6⟩, fun b hb => Nat.lt_of_lt_of_le (h7 b hb) ho.size, fun b hb => Nat.lt_of_lt_of_le (h8 b hb) ho.size, h9⟩
theorem LiveF.later (h : LiveF Wr Rd g N c w) (hb : Below w.heap.size w w') : LiveF Wr Rd g N c w' := h.keep (Only.of_below hb (fun _ => False)) (fun _ hf => hf.elim)
theorem Live.fine {M : Nat → Prop} (h : Live M g N c w) : ∃ Wr Rd, LiveF Wr Rd g N c w ∧ ∀ b, Wr b ∨ Rd b → M b := by
  obtain ⟨⟨L, S, d, h1, h2, h3, h4, h5, h6⟩, h7⟩ := h
  refine ⟨L.fp, fun b => ∃ i a x, L.ad[i]? = some a ∧ a.1 = some x ∧ x.block = b, ⟨⟨L, S, d, h1, h2, h3, h4, fun _ hb => hb, fun i a ha x hx => ⟨i, a, x, ha, hx, rfl⟩⟩, fun b hb => h7 b (h5 b hb), ?_, ?_⟩, ?_⟩
  · rintro b ⟨i, a, x, ha, hx, rfl⟩
    exact h7 _ (h6 i a ha x hx)
  · rintro b ⟨i, a, x, ha, hx, rfl⟩
    obtain ⟨p, hp⟩ : ∃ p, S.nodes[i]? = some p := ⟨_, List.getElem?_eq_getElem (by rw [← h2.ad]; exact (List.getElem?_eq_some_iff.1 ha).1)⟩
    exact ((h2.args i p a hp ha).2 x hx).2
  · rintro b (hb | ⟨i, a, x, ha, hx, rfl⟩)
    · exact h5 b hb
    · exact h6 i a ha x hx
theorem LiveF.live (h : LiveF Wr Rd g N c w) : Live (fun b => Wr b ∨ Rd b) g N c w := by
  obtain ⟨⟨L, S, d, h1, h2, h3, h4, h5, h6⟩, h7, h8, h9⟩ := h
  exact ⟨⟨L, S, d, h1, h2, h3, h4, fun b hb => .inl (h5 b hb), fun i a ha x hx => .inr (h6 i a ha x hx)⟩, fun b hb => hb.elim (h7 b) (h8 b)⟩
theorem LiveF.cls (h : LiveF Wr Rd g N c w) : ClsOk N c := h.live.cls
theorem LiveF.many (h : LiveF Wr Rd g N c w) : N.length ≤ 1000000 := h.live.many
theorem livef_find (h : LiveF Wr Rd g N c w) (i : Nat) (hi : i < N.length) : Calls Try.prog 59 #[.pointer (some ⟨g, 0, none⟩), .int .i64 (i : Int)] w fun e w' => e = .returned (.int .i64 (c i : Int)) ∧ w = w' := by
  obtain ⟨⟨L, S, d, rfl, h2, rfl, h4, h5, h6⟩, h7, h8, h9⟩ := h
  exact find_any h2 h4.inv.forest i hi
/-- What form hands over: a node, with its tree. -/
def FormAt (w : World) (Rd : Nat → Prop) (N : List Nd) (c : Nat → Nat) (i : Nat) (T : Fo) (e : Ending) (w' : World) : Prop :=
  ∃ (p : Nd) (A : Option Addr) (cap : Nat), e = .returned (.agg #[.int .i64 p.kind, .string p.name, .slice A p.args.length cap]) ∧ Below w.heap.size w w' ∧ Nats w A p.args ∧ (∀ x, A = some x → Rd x.block) ∧ p.args.length ≤ 1000000 ∧ (∀ y ∈ p.args, y < N.length) ∧
    ((p.kind = 1 ∧ p.args = [] ∧ T = .var (c i) .nil) ∨ (p.kind ≠ 1 ∧ ∃ B, TreeOf N c p.args B ∧ T = .con p.kind p.name B .nil))
theorem livef_form (h : LiveF Wr Rd g N c w) (i : Nat) (hi : i < N.length) (T : Fo) (hT : TreeOf N c [i] T) : Calls Try.prog 38 #[.pointer (some ⟨g, 0, none⟩), .int .i64 (i : Int)] w (FormAt w Rd N c i T) := by
  have hcls := h.cls
  obtain ⟨⟨L, S, d, rfl, h2, rfl, h4, h5, h6⟩, h7, h8, h9⟩ := h
  have hcl := h4.closed
  have hf := h4.inv.forms (c i) (h4.inv.root i hi).1 (h4.inv.root i hi).2.2
  obtain ⟨p, hp⟩ : ∃ p, S.nodes[par S.forms (c i)]? = some p := ⟨_, List.getElem?_eq_getElem hf.lt⟩
  have hF : ∀ i, i < S.nodes.length → Form S.nodes c (c i) (par S.forms (c i)) := fun i hi => h4.inv.forms (c i) (h4.inv.root i hi).1 (h4.inv.root i hi).2.2
  have hi' : ∀ x ∈ [i], x < S.nodes.length := by simpa using hi
  obtain ⟨T', hS⟩ := Stands.exists (F := par S.forms) h4.inv.wf (fun i hi => (h4.inv.root i hi).1) hF h4.acyc [i] hi'
  have hTT : T = T' := TreeOf.unique h4.inv.wf hcl hcls.roots hi' hT ⟨_, hF, hS⟩
  refine (form_any h2 h4.inv.forest i hi p hp).mono ?_
  rintro e w' ⟨a, ha, rfl, hb⟩
  have hpl : ∀ y ∈ p.args, y < S.nodes.length := fun y hy => by
    have h1 := (h4.inv.wf _ p hp).1 y hy
    have h2 := (List.getElem?_eq_some_iff.1 hp).1
    omega
  refine ⟨p, a.1, a.2, rfl, hb, (h2.args _ p a hp ha).1, fun x hx => h6 _ a ha x hx, h2.few _ p hp, hpl, ?_⟩
  rw [hTT]
  cases hS with
  | @var _ _ _ P' hP' hkd hrr =>
    cases hrr
    rw [hp] at hP'; injection hP' with e; subst e
    exact .inl ⟨hkd, (h4.inv.wf _ p hp).2 hkd, rfl⟩
  | @con _ _ A _ P' hP' hkd haa hrr =>
    cases hrr
    rw [hp] at hP'; injection hP' with e; subst e
    exact .inr ⟨hkd, A, ⟨_, hF, haa⟩, rfl⟩
/-- What adding a node leaves. -/
def AddAt (w : World) (Wr Rd : Nat → Prop) (g : Nat) (N : List Nd) (c : Nat → Nat) (p : Nd) (A : Option Addr) (e : Ending) (w' : World) : Prop :=
  e = .returned (.int .i64 (N.length : Int)) ∧ LiveF (more Wr w w') (fun b => Rd b ∨ ∃ x, A = some x ∧ x.block = b) g (N ++ [p]) (addC N.length c) w' ∧ Only Wr w w'
theorem livef_add (h : LiveF Wr Rd g N c w) (p : Nd) (A : Option Addr) (cap : Nat) (hA : Nats w A p.args) (hn : ∀ x, A = some x → ¬ Wr x.block ∧ x.block < w.heap.size) (hm : N.length + 1 ≤ 1000000) (hpa : p.args.length ≤ 1000000) (hargs : ∀ y ∈ p.args, y < N.length) (hk : p.kind = 1 → p.args = []) :
    Calls Try.prog 50 #[.pointer (some ⟨g, 0, none⟩), .agg #[.int .i64 p.kind, .string p.name, .slice A p.args.length cap]] w (AddAt w Wr Rd g N c p A) := by
  obtain ⟨⟨L, S, d, rfl, h2, rfl, h4, h5, h6⟩, h7, h8, h9⟩ := h
  refine (add_any h2 p A cap hA (fun x hx hf => (hn x hx).1 (h5 _ hf)) (fun x hx => (hn x hx).2) hm hpa).mono ?_
  rintro e w' ⟨rfl, L', k1, k2, k3, k4, k5⟩
  have ho : Only Wr w w' := k3.mono fun b _ hb => h5 b hb
  refine ⟨rfl, ⟨⟨L', S.add p, _, k2, k1, rfl, h4.add p hargs hk, fun b hb => ?_, fun i a ha x hx => ?_⟩, fun b hb => ?_, fun b hb => ?_, fun b hb hb' => ?_⟩, ho⟩
  · exact (k4 b hb).imp (h5 b) fun h => ⟨h, (k1.fp_lt b hb).2⟩
  · rcases k5 i a ha with h | h
    · exact .inl (h6 i a h x hx)
    · exact .inr ⟨x, by rw [← h]; exact hx, rfl⟩
  · rcases hb with hb | hb
    · exact Nat.lt_of_lt_of_le (h7 b hb) ho.size
    · exact hb.2
  · rcases hb with hb | ⟨x, hx, rfl⟩
    · exact Nat.lt_of_lt_of_le (h8 b hb) ho.size
    · exact Nat.lt_of_lt_of_le (hn x hx).2 ho.size
  · rcases hb with hb | ⟨x, hx, rfl⟩
    · rcases hb' with hb' | hb'
      · exact h9 b hb hb'
      · have := h8 b hb; omega
    · rcases hb' with hb' | hb'
      · exact (hn x hx).1 hb'
      · have := (hn x hx).2; omega
/-- .. a variable. -/
def VarAt (w : World) (Wr Rd : Nat → Prop) (g : Nat) (N : List Nd) (c : Nat → Nat) (e : Ending) (w' : World) : Prop :=
  e = .returned (.int .i64 (N.length : Int)) ∧ LiveF (more Wr w w') Rd g (N ++ [varNd]) (addC N.length c) w' ∧ Only Wr w w'
theorem livef_var (h : LiveF Wr Rd g N c w) (hm : N.length + 1 ≤ 1000000) : Calls Try.prog 26 #[.pointer (some ⟨g, 0, none⟩)] w (VarAt w Wr Rd g N c) := by
  obtain ⟨⟨L, S, d, rfl, h2, rfl, h4, h5, h6⟩, h7, h8, h9⟩ := h
  refine (var_any h2 hm).mono ?_
  rintro e w' ⟨rfl, L', k1, k2, k3, k4, k5⟩
  have ho : Only Wr w w' := k3.mono fun b _ hb => h5 b hb
  refine ⟨rfl, ⟨⟨L', S.add varNd, _, k2, k1, rfl, h4.add varNd (by simp [varNd]) (fun _ => rfl), fun b hb => ?_, fun i a ha x hx => ?_⟩, fun b hb => ?_, fun b hb => ?_, fun b hb hb' => ?_⟩, ho⟩
  · exact (k4 b hb).imp (h5 b) fun h => ⟨h, (k1.fp_lt b hb).2⟩
  · rcases k5 i a ha with h | h
    · exact h6 i a h x hx
    · rw [h] at hx; cases hx
  · rcases hb with hb | hb
    · exact Nat.lt_of_lt_of_le (h7 b hb) ho.size
    · exact hb.2
  · exact Nat.lt_of_lt_of_le (h8 b hb) ho.size
  · rcases hb' with hb' | hb'
    · exact h9 b hb hb'
    · have := h8 b hb; omega
end
end Go.Proofs.Ytafpbdmggnfdnaa
