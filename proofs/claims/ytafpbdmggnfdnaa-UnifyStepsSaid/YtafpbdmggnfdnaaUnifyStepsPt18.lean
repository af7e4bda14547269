/- Part 18 of the proof of UnifySteps: what follows was kept as these texts: Alive, PlainMeets, TwoAsk, LawBase, SameInts, AliveWalk, LawTypes. -/
import Derived.Test.YtafpbdmggnfdnaaUnifyStepsPt1
import Derived.Test.YtafpbdmggnfdnaaUnifyStepsPt2
import Derived.Test.YtafpbdmggnfdnaaUnifyStepsPt3
import Derived.Test.YtafpbdmggnfdnaaUnifyStepsPt4
import Derived.Test.YtafpbdmggnfdnaaUnifyStepsPt5
import Derived.Test.YtafpbdmggnfdnaaUnifyStepsPt6
import Derived.Test.YtafpbdmggnfdnaaUnifyStepsPt7
import Derived.Test.YtafpbdmggnfdnaaUnifyStepsPt8
import Derived.Test.YtafpbdmggnfdnaaUnifyStepsPt9
import Derived.Test.YtafpbdmggnfdnaaUnifyStepsPt10
import Derived.Test.YtafpbdmggnfdnaaUnifyStepsPt11
import Derived.Test.YtafpbdmggnfdnaaUnifyStepsPt12
import Derived.Test.YtafpbdmggnfdnaaUnifyStepsPt13
import Derived.Test.YtafpbdmggnfdnaaUnifyStepsPt14
import Derived.Test.YtafpbdmggnfdnaaUnifyStepsPt15
import Derived.Test.YtafpbdmggnfdnaaUnifyStepsPt16
import Derived.Test.YtafpbdmggnfdnaaUnifyStepsPt17
import Derived.Deep.QuietTactic
import Derived.BigQuiet
/- alive: a store of six nodes. -/
namespace Go.Proofs.Ytafpbdmggnfdnaa
open Go.RowKit
set_option linter.unusedVariables false

theorem addC_id (n : Nat) : addC n (fun i => i) = fun i => i := by
  funext i; unfold addC; split
  · rename_i h; exact h.symm
  · rfl
/-- A class with a head that is no variable. -/
theorem Stands.con_of {N : List Nd} {c F : Nat → Nat} (hw : Wf N) (hcl : Closed N c) (hF : ∀ i, i < N.length → Form N c (c i) (F (c i))) {i j : Nat} {is : List Nat} {T : Fo} {q : Nd} (hi : i < N.length) (hj : N[j]? = some q) (hij : c j = c i) (hk : q.kind ≠ 1) (h : Stands N c F (i :: is) T) :
    ∃ A T', T = .con q.kind q.name A T' ∧ Stands N c F q.args A ∧ Stands N c F is T' := by
  have Fi := hF i hi
  cases h with
  | @var _ _ T' p hp hkp hr => exact absurd hkp (Fi.head j q p hj hij hk hp)
  | @con _ _ A T' p hp hkp ha hr =>
    obtain ⟨hh, hargs⟩ := hcl (F (c i)) j p q hp hj (Fi.cls.trans hij.symm) hkp hk
    exact ⟨A, T', by rw [hh.1, hh.2.1], ha.congr hh.2.2 hargs, hr⟩

def bInt : ByteArray := ⟨#[105, 110, 116]⟩
def bList : ByteArray := ⟨#[108, 105, 115, 116]⟩
def N6 : List Nd := [varNd, varNd, ⟨2, bInt, []⟩, ⟨4, ByteArray.empty, [0, 0]⟩, ⟨4, ByteArray.empty, [2, 1]⟩, ⟨2, bList, [0]⟩]
theorem forall6 {P : Nat → Prop} (h0 : P 0) (h1 : P 1) (h2 : P 2) (h3 : P 3) (h4 : P 4) (h5 : P 5) (i : Nat) (hi : i < 6) : P i := by
  rcases i with _ | _ | _ | _ | _ | _ | i
  · exact h0
  · exact h1
  · exact h2
  · exact h3
  · exact h4
  · exact h5
  · omega
theorem at6 {i : Nat} {p : Nd} (h : N6[i]? = some p) : i < 6 := by
  have := (List.getElem?_eq_some_iff.1 h).1
  simpa [N6] using this
theorem alive_cycle {err : Int} {c' : Nat → Nat} (h : UniSaid N6 (fun i => i) 0 5 err c') (ha : Acyc N6 c') : err = 130 ∧ c' = fun i => i := by
  rcases h with ⟨h, _⟩ | ⟨_, ⟨_, h⟩ | ⟨_, _, h⟩ | ⟨h1, h2, _⟩⟩
  · exact absurd h (by decide)
  · obtain ⟨g, g1, g2⟩ := ha
    have h1 := g2 5 ⟨2, bList, [0]⟩ rfl 0 (by simp)
    have h2 := g1 0 5 (by decide) (by decide) h.good.ab
    omega
  · refine absurd ?_ (h (fun i => if i = 5 then 0 else i))
    refine ⟨fun i j _ _ e => by have e' : i = j := e; rw [e'], rfl, ?_⟩
    intro i j p q hi hj hij hp hq
    have : i = j := by
      have h1 := at6 hi
      have h2 := at6 hj
      simp only at hij
      by_cases e1 : i = 5 <;> by_cases e2 : j = 5
      · omega
      · rw [if_pos e1, if_neg e2] at hij
        subst hij
        simp [N6] at hj; subst hj; exact absurd rfl hq
      · rw [if_neg e1, if_pos e2] at hij
        subst hij
        simp [N6] at hi; subst hi; exact absurd rfl hp
      · rw [if_neg e1, if_neg e2] at hij; exact hij
    subst this
    rw [hi] at hj; injection hj with hj; subst hj
    exact ⟨⟨rfl, rfl, rfl⟩, fun k a b ha hb => by rw [ha] at hb; injection hb with hb; rw [hb]⟩
  · exact ⟨h1, h2⟩
def e6 (i : Nat) : Nat := if i ≤ 2 then 0 else if i ≤ 4 then 3 else i
theorem good6 : Good N6 (fun i => i) 3 4 e6 := by
  refine ⟨fun i j _ _ e => by have e' : i = j := e; rw [e'], rfl, ?_⟩
  intro i j p q hi hj
  have h1 := at6 hi
  have h2 := at6 hj
  revert hi hj
  refine forall6 (P := fun i => N6[i]? = some p → N6[j]? = some q → e6 i = e6 j → p.kind ≠ 1 → q.kind ≠ 1 → Heads p q ∧ ∀ (k a b : Nat), p.args[k]? = some a → q.args[k]? = some b → e6 a = e6 b) ?_ ?_ ?_ ?_ ?_ ?_ i h1 <;>
  refine forall6 (P := fun j => N6[_]? = some p → N6[j]? = some q → e6 _ = e6 j → p.kind ≠ 1 → q.kind ≠ 1 → Heads p q ∧ ∀ (k a b : Nat), p.args[k]? = some a → q.args[k]? = some b → e6 a = e6 b) ?_ ?_ ?_ ?_ ?_ ?_ j h2 <;>
  · intro hp hq he kp kq
    first
      | exact absurd he (by decide)
      | (simp only [N6, List.getElem?_cons_zero, List.getElem?_cons_succ, Option.some.injEq] at hp hq
         subst hp; subst hq
         first
           | exact absurd rfl kp
           | exact absurd rfl kq
           | (refine ⟨⟨rfl, rfl, rfl⟩, fun k a b ha hb => ?_⟩
              rcases k with _ | _ | k <;> simp at ha hb <;> (try subst ha) <;> (try subst hb) <;> rfl))
theorem acyc6 : Acyc N6 e6 := by
  refine ⟨fun i => if i ≤ 2 then 0 else 1, ?_, fun i p hi => ?_⟩
  · intro i j hi hj
    have h1 : i < 6 := by simpa [N6] using hi
    have h2 : j < 6 := by simpa [N6] using hj
    unfold e6
    intro hij
    show (if i ≤ 2 then 0 else 1) = (if j ≤ 2 then 0 else 1)
    by_cases a : i ≤ 2 <;> by_cases b : j ≤ 2
    · rw [if_pos a, if_pos b]
    · rw [if_pos a, if_neg b] at hij; split at hij <;> omega
    · rw [if_neg a, if_pos b] at hij; split at hij <;> omega
    · rw [if_neg a, if_neg b]
  · have h1 := at6 hi
    revert hi
    refine forall6 (P := fun i => N6[i]? = some p → ∀ a ∈ p.args, (if a ≤ 2 then 0 else 1) < (if i ≤ 2 then 0 else 1)) ?_ ?_ ?_ ?_ ?_ ?_ i h1 <;>
    · intro hp a ha
      simp only [N6, List.getElem?_cons_zero, List.getElem?_cons_succ, Option.some.injEq] at hp
      subst hp
      simp [varNd] at ha
      try (rcases ha with rfl | rfl <;> decide)
      try (subst ha; decide)
theorem alive_ok {err : Int} {c' : Nat → Nat} (h : UniSaid N6 (fun i => i) 3 4 err c') : err = 0 ∧ c' 3 = c' 4 := by
  rcases h with ⟨h, _⟩ | ⟨_, ⟨h0, h⟩ | ⟨_, _, h⟩ | ⟨h1, h2, cl, hl, hn⟩⟩
  · exact absurd h (by decide)
  · exact ⟨h0, h.good.ab⟩
  · exact absurd good6 (h e6)
  · exact absurd (acyc6.of (hl.least e6 good6)) hn
theorem alive_cls {c : Nat → Nat} (hcl : Closed N6 c) (h : c 3 = c 4) : c 0 = c 2 ∧ c 0 = c 1 := by
  obtain ⟨_, h1⟩ := hcl 3 4 _ _ rfl rfl h (by decide) (by decide)
  exact ⟨h1 0 0 2 rfl rfl, h1 1 0 1 rfl rfl⟩
theorem alive_tree {c : Nat → Nat} (hw : Wf N6) (hcl : Closed N6 c) (h : c 3 = c 4) {T : Fo} (hT : TreeOf N6 c [1, 5] T) : T = .con 2 bInt .nil (.con 2 bList (.con 2 bInt .nil .nil) .nil) := by
  obtain ⟨h1, h2⟩ := alive_cls hcl h
  obtain ⟨F, hF, hS⟩ := hT
  obtain ⟨A, T', rfl, ha, hr⟩ := Stands.con_of hw hcl hF (by decide) (j := 2) (q := ⟨2, bInt, []⟩) rfl (h1.symm.trans h2) (by decide) hS
  cases ha
  obtain ⟨B, T'', rfl, hb, hr2⟩ := Stands.con_of hw hcl hF (by decide) (j := 5) (q := ⟨2, bList, [0]⟩) rfl rfl (by decide) hr
  cases hr2
  obtain ⟨C, T3, rfl, hc, hr3⟩ := Stands.con_of hw hcl hF (by decide) (j := 2) (q := ⟨2, bInt, []⟩) rfl h1.symm (by decide) hb
  cases hc; cases hr3
  rfl
theorem alive_small {c : Nat → Nat} (hw : Wf N6) (hcl : Closed N6 c) (h : c 3 = c 4) {x : Nat} (hx : x = 1 ∨ x = 5) {T : Fo} (hT : TreeOf N6 c [x] T) : T.cnt ≤ 300 ∧ (x = 5 → T.cnt = 2) := by
  obtain ⟨h1, h2⟩ := alive_cls hcl h
  obtain ⟨F, hF, hS⟩ := hT
  rcases hx with rfl | rfl
  · obtain ⟨A, T', rfl, ha, hr⟩ := Stands.con_of hw hcl hF (by decide) (j := 2) (q := ⟨2, bInt, []⟩) rfl (h1.symm.trans h2) (by decide) hS
    cases ha; cases hr
    exact ⟨by simp [Fo.cnt], fun e => by cases e⟩
  · obtain ⟨B, T'', rfl, hb, hr2⟩ := Stands.con_of hw hcl hF (by decide) (j := 5) (q := ⟨2, bList, [0]⟩) rfl rfl (by decide) hS
    cases hr2
    obtain ⟨C, T3, rfl, hc, hr3⟩ := Stands.con_of hw hcl hF (by decide) (j := 2) (q := ⟨2, bInt, []⟩) rfl h1.symm (by decide) hb
    cases hc; cases hr3
    exact ⟨by simp [Fo.cnt], fun _ => by simp [Fo.cnt]⟩
theorem alive_yes {c : Nat → Nat} (hcl : Closed N6 c) (h : c 3 = c 4) : AlikeIn N6 c 1 2 := by
  obtain ⟨h1, h2⟩ := alive_cls hcl h
  exact ⟨c, ⟨fun _ _ _ _ e => e, h2.symm.trans h1, hcl⟩, Still.refl _ _⟩
theorem alive_no (c : Nat → Nat) : ¬ AlikeIn N6 c 3 2 := by
  rintro ⟨e, he, _⟩
  have := (he.closed 3 2 _ _ rfl rfl he.ab (by decide) (by decide)).1.1
  exact absurd this (by decide)
end Go.Proofs.Ytafpbdmggnfdnaa

/- Plain: two stores whose classes are the same; what is alike stands for the same. -/
namespace Go.Proofs.Ytafpbdmggnfdnaa
set_option linter.unusedVariables false

theorem addNew_map (f : Nat → Nat) : ∀ (vs acc : List Nat), (∀ x ∈ acc ++ vs, ∀ y ∈ acc ++ vs, f x = f y → x = y) → addNew (acc.map f) (vs.map f) = (addNew acc vs).map f := by
  intro vs
  induction vs with
  | nil => intro acc _; rfl
  | cons v vs ih =>
    intro acc hinj
    have hmem : f v ∈ acc.map f ↔ v ∈ acc := by
      constructor
      · intro h
        obtain ⟨y, hy, e⟩ := List.mem_map.1 h
        have := hinj y (List.mem_append_left _ hy) v (by simp) e
        rwa [← this]
      · intro h; exact List.mem_map_of_mem h
    unfold addNew at ih ⊢
    rw [List.map_cons, List.foldl_cons, List.foldl_cons]
    by_cases hv : v ∈ acc
    · rw [if_pos hv, if_pos (hmem.2 hv)]
      exact ih acc (fun x hx y hy => hinj x (by simp at hx ⊢; rcases hx with h | h; exact .inl h; exact .inr (.inr h)) y (by simp at hy ⊢; rcases hy with h | h; exact .inl h; exact .inr (.inr h)))
    · rw [if_neg hv, if_neg (fun h => hv (hmem.1 h))]
      have := ih (acc ++ [v]) (fun x hx y hy => hinj x (by simpa using hx) y (by simpa using hy))
      simpa using this
theorem idxOf_map (f : Nat → Nat) : ∀ (l : List Nat) (v : Nat), (∀ x ∈ l, f x = f v → x = v) → (l.map f).idxOf (f v) = l.idxOf v := by
  intro l
  induction l with
  | nil => intro v _; rfl
  | cons a l ih =>
    intro v hinj
    rw [List.map_cons, List.idxOf_cons, List.idxOf_cons]
    by_cases h : a = v
    · subst h; simp
    · have h2 : ¬ f a = f v := fun e => h (hinj a List.mem_cons_self e)
      have h3 : (a == v) = false := by simpa using h
      have h4 : (f a == f v) = false := by simpa using h2
      rw [h3, h4]
      simp only [cond_false]
      rw [ih v (fun x hx => hinj x (List.mem_cons_of_mem _ hx))]
/-- The names of the variables don't matter. -/
theorem ren_mapv (f : Nat → Nat) (T : Fo) (hinj : ∀ x ∈ T.vars, ∀ y ∈ T.vars, f x = f y → x = y) : ren (T.mapv f) = ren T := by
  have e : addNew [] (T.vars.map f) = (addNew [] T.vars).map f := by
    have := addNew_map f T.vars [] (by simpa using hinj)
    simpa using this
  unfold ren
  rw [Fo.mapv_mapv, Fo.vars_mapv, e]
  refine Fo.mapv_congr T (fun v hv => ?_)
  refine idxOf_map f _ v (fun x hx he => ?_)
  have hx' : x ∈ T.vars := by simpa using (addNew_mem _ _ _).1 hx
  exact hinj x hx' v hv he
section
variable {N : List Nd} {c c' : Nat → Nat}
theorem tree_same {is : List Nat} {T T' : Fo} (hw : Wf N) (hcl : Closed N c) (hs : SameC N c c') (hc : ∀ i, i < N.length → c i < N.length ∧ c (c i) = c i) (hi : ∀ i ∈ is, i < N.length) (h : TreeOf N c is T) (h' : TreeOf N c' is T') : T'.cnt = T.cnt ∧ ren T' = ren T := by
  obtain ⟨F, hF, hT⟩ := h
  obtain ⟨F', hF', hT'⟩ := h'
  have e := Stands.same hw hcl hs.1 hs.2 hc hF hF' hT is T' hi hi rfl (fun k i j h1 h2 => by rw [h1] at h2; injection h2 with e; rw [e]) hT'
  have hr := hT.roots hw hc hi
  rw [e]
  refine ⟨Fo.cnt_mapv _ _, ren_mapv c' T (fun x hx y hy he => ?_)⟩
  have h1 := hr x hx
  have h2 := hr y hy
  have := hs.2 x y h1.1 h2.1 he
  rw [h1.2, h2.2] at this
  exact this
/-- Nodes of one class stand for the same. -/
theorem tree_pair {x y : Nat} {T : Fo} (hxy : c x = c y) (h : TreeOf N c [x, y] T) : ∃ A, TreeOf N c [x] A ∧ TreeOf N c [y] A ∧ T = A.app A ∧ A.len = 1 := by
  obtain ⟨F, hF, hT⟩ := h
  obtain ⟨A, B, rfl, h1, h2⟩ := Stands.split (is := [x]) (js := [y]) hT
  have h3 : Stands N c F [y] A := h1.congr rfl (fun k i j hi hj => by
    rcases k with _ | k
    · simp at hi hj; subst hi; subst hj; exact hxy
    · simp at hi)
  have e := h3.unique h2
  subst e
  exact ⟨A, ⟨F, hF, h1⟩, ⟨F, hF, h2⟩, rfl, h1.len⟩
theorem Fo.nth_app0 (A B : Fo) (h : A.len = 1) : (A.app B).nth 0 = A ∧ (A.app B).nth 1 = B.nth 0 := by
  cases A with
  | nil => simp [Fo.len] at h
  | var n r =>
    cases r with
    | nil => exact ⟨rfl, rfl⟩
    | var _ _ => simp [Fo.len] at h
    | con _ _ _ _ => simp [Fo.len] at h
  | con k m a r =>
    cases r with
    | nil => exact ⟨rfl, rfl⟩
    | var _ _ => simp [Fo.len] at h
    | con _ _ _ _ => simp [Fo.len] at h
theorem Fo.nth_one (A : Fo) (h : A.len = 1) : A.nth 0 = A := by
  have := (Fo.nth_app0 A .nil h).1
  rwa [Fo.app_nil] at this
/-- What is alike has the same tree. -/
theorem alike_tree {F e : Nat → Nat} (hw : Wf N) (hcl : Closed N c) (hc : ∀ i, i < N.length → c i < N.length ∧ c (c i) = c i) (hF : ∀ i, i < N.length → Form N c (c i) (F (c i))) (hr : Resp N.length c e) (hce : Closed N e) (hst : Still N c e) :
    ∀ {is : List Nat} {T : Fo}, Stands N c F is T → ∀ {js : List Nat} {U : Fo}, Stands N c F js U → (∀ i ∈ is, i < N.length) → (∀ j ∈ js, j < N.length) → is.length = js.length → (∀ (k i j : Nat), is[k]? = some i → js[k]? = some j → e i = e j) → T = U := by
  have hvar : ∀ i p, i < N.length → N[F (c i)]? = some p → p.kind = 1 → VarCls N c i := by
    intro i p hi hp hk j q hj hji
    exact (hF i hi).vars hp hk j q hj hji
  intro is T h
  induction h with
  | nil =>
    intro js U hU _ _ hl _
    rcases js with _ | ⟨j, js⟩
    · cases hU; rfl
    · simp at hl
  | @var i is T p hp hk hr' ih =>
    intro js U hU hi hj hl hm
    rcases js with _ | ⟨j, js⟩
    · simp at hl
    · have hil := hi i List.mem_cons_self
      have hjl := hj j List.mem_cons_self
      have hij := hst i j hil hjl (hvar i p hil hp hk) (hm 0 i j rfl rfl)
      have hrest := fun U' hU' => ih (js := js) (U := U') hU' (fun x hx => hi x (List.mem_cons_of_mem _ hx)) (fun x hx => hj x (List.mem_cons_of_mem _ hx)) (by simpa using hl) (fun k x y hx hy => hm (k + 1) x y (by simpa using hx) (by simpa using hy))
      cases hU with
      | @var _ _ U' q hq hkq hrU => rw [hrest U' hrU, hij]
      | @con _ _ _ _ q hq hkq _ _ => rw [← hij, hp] at hq; injection hq with hq; subst hq; exact absurd hk hkq
  | @con i is A T p hp hk ha hr' iha ih =>
    intro js U hU hi hj hl hm
    rcases js with _ | ⟨j, js⟩
    · simp at hl
    · have hil := hi i List.mem_cons_self
      have hjl := hj j List.mem_cons_self
      have hij := hm 0 i j rfl rfl
      have hrest := fun U' hU' => ih (js := js) (U := U') hU' (fun x hx => hi x (List.mem_cons_of_mem _ hx)) (fun x hx => hj x (List.mem_cons_of_mem _ hx)) (by simpa using hl) (fun k x y hx hy => hm (k + 1) x y (by simpa using hx) (by simpa using hy))
      cases hU with
      | @var _ _ U' q hq hkq hrU =>
        have := hst j i hjl hil (hvar j q hjl hq hkq) hij.symm
        rw [this, hp] at hq; injection hq with hq; subst hq; exact absurd hkq hk
      | @con _ _ A' U' q hq hkq haU hrU =>
        have Fi := hF i hil
        have Fj := hF j hjl
        have he : e (F (c i)) = e (F (c j)) := by rw [hr (F (c i)) i Fi.lt hil Fi.cls, hij, hr j (F (c j)) hjl Fj.lt Fj.cls.symm]
        obtain ⟨hh, hargs⟩ := hce _ _ p q hp hq he hk hkq
        have hlt : ∀ {f : Nat} {p : Nd}, N[f]? = some p → ∀ x ∈ p.args, x < N.length := by
          intro f p hp x hx
          have h1 := (hw _ p hp).1 x hx
          have h2 := (List.getElem?_eq_some_iff.1 hp).1
          omega
        rw [hrest U' hrU, iha haU (hlt hp) (hlt hq) hh.2.2 hargs, hh.1, hh.2.1]
theorem Stands.mem_cnt {F : Nat → Nat} {is : List Nat} {T : Fo} (h : Stands N c F is T) : ∀ x ∈ is, ∀ B, Stands N c F [x] B → B.cnt ≤ T.cnt := by
  induction is generalizing T with
  | nil => intro x hx; simp at hx
  | cons y is ih =>
    obtain ⟨A, C, rfl, h1, h2⟩ := Stands.split (is := [y]) (js := is) h
    intro x hx B hB
    rw [Fo.cnt_app]
    rcases List.mem_cons.1 hx with rfl | hx
    · rw [hB.unique h1]; omega
    · have := ih h2 x hx B hB; omega
open Classical in
/-- Two that are alike already: to make them one makes no cycle. -/
theorem alike_acyc {a b : Nat} {cl : Nat → Nat} (hw : Wf N) (hcl : Closed N c) (hc : ∀ i, i < N.length → c i < N.length ∧ c (c i) = c i) {F : Nat → Nat} (hF : ∀ i, i < N.length → Form N c (c i) (F (c i))) (hac : Acyc N c) (hal : AlikeIn N c a b) (hl : Least N c a b cl) : Acyc N cl := by
  obtain ⟨e, he, hst⟩ := hal
  have hex : ∀ i, i < N.length → ∃ T, Stands N c F [i] T := fun i hi => Stands.exists hw (fun i hi => (hc i hi).1) hF hac [i] (by simpa using hi)
  refine ⟨fun i => if h : ∃ T, Stands N c F [i] T then (Classical.choose h).cnt else 0, fun i j hi hj hij => ?_, fun i p hp x hx => ?_⟩
  · obtain ⟨T, hT⟩ := hex i hi
    obtain ⟨U, hU⟩ := hex j hj
    have hij' : e i = e j := hl.least e he i j hi hj hij
    have := alike_tree hw hcl hc hF he.resp he.closed hst hT hU (by simpa using hi) (by simpa using hj) rfl (fun k x y hx hy => by
      rcases k with _ | k
      · simp at hx hy; subst hx; subst hy; exact hij'
      · simp at hx)
    subst this
    have h1 : ∃ T, Stands N c F [i] T := ⟨T, hT⟩
    have h2 : ∃ T, Stands N c F [j] T := ⟨T, hU⟩
    simp only [dif_pos h1, dif_pos h2]
    rw [(Classical.choose_spec h1).unique hT, (Classical.choose_spec h2).unique hU]
  · have hil := (List.getElem?_eq_some_iff.1 hp).1
    have hxl : x < N.length := by have := (hw i p hp).1 x hx; omega
    obtain ⟨T, hT⟩ := hex i hil
    obtain ⟨U, hU⟩ := hex x hxl
    have h1 : ∃ T, Stands N c F [x] T := ⟨U, hU⟩
    have h2 : ∃ T, Stands N c F [i] T := ⟨T, hT⟩
    simp only [dif_pos h1, dif_pos h2]
    rw [(Classical.choose_spec h1).unique hU, (Classical.choose_spec h2).unique hT]
    have hpk : p.kind ≠ 1 := fun e => by rw [(hw i p hp).2 e] at hx; simp at hx
    obtain ⟨A, T', rfl, ha, hr⟩ := Stands.con_of hw hcl hF hil hp rfl hpk hT
    cases hr
    have := ha.mem_cnt x hx U hU
    simp only [Fo.cnt]; omega
/-- Again: what is one stays one. -/
theorem uni_again {a b : Nat} {err : Int} {cl : Nat → Nat} (ha : a < N.length) (hb : b < N.length) (hcl : Closed N c) (hac : Acyc N c) (h : c a = c b) (hu : UniSaid N c (a : Int) (b : Int) err cl) : err = 0 := by
  have hg : Good N c a b c := ⟨fun _ _ _ _ e => e, h, hcl⟩
  rcases hu with ⟨h1, _⟩ | ⟨_, ⟨h1, _⟩ | ⟨_, _, h1⟩ | ⟨_, _, ck, h1, h2⟩⟩
  · rw [allIn_two ha hb] at h1; cases h1
  · exact h1
  · exact absurd (by simpa using hg) (h1 c)
  · exact absurd (hac.of (h1.least c (by simpa using hg))) h2
/-- Refused: it wasn't alike. -/
theorem uni_refused {a b : Nat} {err : Int} {cl : Nat → Nat} (ha : a < N.length) (hb : b < N.length) (hw : Wf N) (hcl : Closed N c) (hc : ∀ i, i < N.length → c i < N.length ∧ c (c i) = c i) {F : Nat → Nat} (hF : ∀ i, i < N.length → Form N c (c i) (F (c i))) (hac : Acyc N c) (hu : UniSaid N c (a : Int) (b : Int) err cl) (h0 : err ≠ 0) : cl = c ∧ ¬ AlikeIn N c a b ∧ (err = 131 ∨ err = 130) := by
  rcases hu with ⟨h1, _⟩ | ⟨_, ⟨h1, _⟩ | ⟨h1, h2, h3⟩ | ⟨h1, h2, ck, h3, h4⟩⟩
  · rw [allIn_two ha hb] at h1; cases h1
  · exact absurd h1 h0
  · refine ⟨h2, ?_, .inl h1⟩
    rintro ⟨e, he, _⟩
    exact h3 e (by simpa using he)
  · refine ⟨h2, fun hal => ?_, .inr h1⟩
    simp only [Int.toNat_natCast] at h3
    exact h4 (alike_acyc hw hcl hc hF hac hal h3)
end
end Go.Proofs.Ytafpbdmggnfdnaa

/- Both stores asked: sizes, types, what is alike. -/
namespace Go.Proofs.Ytafpbdmggnfdnaa
open Go.RowKit
set_option linter.unusedVariables false

section
variable {M : Nat → Prop} {v : Value} {N : List Nd} {c : Nat → Nat} {w : World}
theorem RLive.ok (h : RLive M v N c w) : Wf N ∧ Closed N c ∧ Acyc N c := by
  obtain ⟨⟨ad, R, d, h1, rfl, h4, h5, h6⟩, h7⟩ := h
  exact ⟨h4.inv.wf, h4.closed, h4.acyc⟩
theorem RLive.tree (h : RLive M v N c w) {is : List Nat} {T : Fo} (hi : ∀ i ∈ is, i < N.length) (hT : TreeOf N c is T) : Stands N c idF is T := by
  obtain ⟨k1, k2, k3⟩ := h.ok
  obtain ⟨T', h'⟩ := Stands.exists (F := idF) k1 (fun i hi => (h.roots i hi).1) (fun i hi => h.forms i hi) k3 is hi
  have := TreeOf.unique k1 k2 (fun i hi => h.roots i hi) hi hT ⟨idF, fun i hi => h.forms i hi, h'⟩
  rw [this]; exact h'
end

/-- What holds of a store's classes. -/
structure ClsOk (N : List Nd) (c : Nat → Nat) : Prop where
  wf : Wf N
  closed : Closed N c
  roots : ∀ i, i < N.length → c i < N.length ∧ c (c i) = c i
  trees : ∀ is, (∀ i ∈ is, i < N.length) → ∃ T, TreeOf N c is T
theorem Live.cls {M : Nat → Prop} {g : Nat} {N : List Nd} {c : Nat → Nat} {w : World} (h : Live M g N c w) : ClsOk N c := ⟨h.wf, h.closed, h.roots, h.tree⟩
theorem RLive.cls {M : Nat → Prop} {v : Value} {N : List Nd} {c : Nat → Nat} {w : World} (h : RLive M v N c w) : ClsOk N c := by
  obtain ⟨k1, k2, k3⟩ := h.ok
  refine ⟨k1, k2, h.roots, fun is hi => ?_⟩
  obtain ⟨T', h'⟩ := Stands.exists (F := idF) k1 (fun i hi => (h.roots i hi).1) (fun i hi => h.forms i hi) k3 is hi
  exact ⟨T', idF, fun i hi => h.forms i hi, h'⟩
theorem allIn_one {n : Nat} {i : Int} : allIn n [i] = inB n i := by simp [allIn, inB]
theorem inB_nat {n : Nat} {i : Int} (h : inB n i = true) : i = (i.toNat : Int) ∧ i.toNat < n := by unfold inB at h; simp at h; omega
/-- A node's size. -/
def SzIs (N : List Nd) (c : Nat → Nat) (i : Int) (sz : Nat) : Prop := (inB N.length i = false ∧ sz = 0) ∨ (inB N.length i = true ∧ ∃ T, TreeOf N c [i.toNat] T ∧ sz = capped T.cnt)
theorem SzIs.ex {N : List Nd} {c : Nat → Nat} (h : ClsOk N c) (i : Int) : ∃ sz, SzIs N c i sz ∧ sz ≤ 301 := by
  cases hi : inB N.length i
  · exact ⟨0, .inl ⟨hi, rfl⟩, by omega⟩
  · obtain ⟨T, hT⟩ := h.trees [i.toNat] (by simpa using (inB_nat hi).2)
    exact ⟨_, .inr ⟨hi, T, hT, rfl⟩, capped_le _⟩
theorem SzIs.same {N : List Nd} {c c' : Nat → Nat} (h : ClsOk N c) (h' : ClsOk N c') (hs : SameC N c c') {i : Int} {sz : Nat} (k : SzIs N c i sz) : SzIs N c' i sz := by
  rcases k with k | ⟨k1, T, hT, k2⟩
  · exact .inl k
  · have hi : ∀ x ∈ [i.toNat], x < N.length := by simpa using (inB_nat k1).2
    obtain ⟨T', hT'⟩ := h'.trees [i.toNat] hi
    exact .inr ⟨k1, T', hT', by rw [k2, (tree_same h.wf h.closed hs h.roots hi hT hT').1]⟩
def bigIn (N : List Nd) (c : Nat → Nat) (xs : List Int) : Prop := ∃ x ∈ xs.map Int.toNat, ∃ B, TreeOf N c [x] B ∧ 300 < B.cnt
/-- What Types answers: an error, and what the types are. -/
inductive TyCase (N : List Nd) (c : Nat → Nat) (xs : List Int) : Int → Fo → Prop where
  | unknown (h : allIn N.length xs = false) : TyCase N c xs 221 .nil
  | big (h : allIn N.length xs = true) (hb : bigIn N c xs) : TyCase N c xs 120 .nil
  | fit (h : allIn N.length xs = true) (hb : ¬ bigIn N c xs) (T : Fo) (hT : TreeOf N c (xs.map Int.toNat) T) : TyCase N c xs 0 (ren T)
theorem ren_cnt (T : Fo) : (ren T).cnt = T.cnt := Fo.cnt_mapv _ _
theorem ren_len (T : Fo) : (ren T).len = T.len := Fo.len_mapv _ _
theorem TreeOf.len {N : List Nd} {c : Nat → Nat} {is : List Nat} {T : Fo} (h : TreeOf N c is T) : T.len = is.length := by
  obtain ⟨F, -, h⟩ := h
  exact h.len
theorem TreeOf.cnt_le {N : List Nd} {c : Nat → Nat} {is : List Nat} {T : Fo} (hok : ClsOk N c) (hi : ∀ i ∈ is, i < N.length) (h : TreeOf N c is T) (hb : ∀ x ∈ is, ∀ B, TreeOf N c [x] B → B.cnt ≤ 300) : T.cnt ≤ 300 * is.length := by
  obtain ⟨F, hF, h⟩ := h
  exact h.cnt_le (fun x hx B hB => hb x hx B ⟨F, hF, hB⟩)
theorem TyCase.ex {N : List Nd} {c : Nat → Nat} (h : ClsOk N c) (xs : List Int) : ∃ err F, TyCase N c xs err F ∧ F.cnt ≤ 300 * xs.length := by
  cases ha : allIn N.length xs
  · exact ⟨221, .nil, .unknown ha, by simp [Fo.cnt]⟩
  · by_cases hb : bigIn N c xs
    · exact ⟨120, .nil, .big ha hb, by simp [Fo.cnt]⟩
    · obtain ⟨T, hT⟩ := h.trees (xs.map Int.toNat) (cast_toNat ha).2
      refine ⟨0, ren T, .fit ha hb T hT, ?_⟩
      rw [ren_cnt]
      have := hT.cnt_le h (cast_toNat ha).2 (fun x hx B hB => Nat.le_of_not_lt (fun hc => hb ⟨x, hx, B, hB, hc⟩))
      rwa [List.length_map] at this
theorem bigIn_same {N : List Nd} {c c' : Nat → Nat} (h : ClsOk N c) (h' : ClsOk N c') (hs : SameC N c c') {xs : List Int} (ha : allIn N.length xs = true) (k : bigIn N c xs) : bigIn N c' xs := by
  obtain ⟨x, hx, B, hB, hc⟩ := k
  have hi : ∀ y ∈ [x], y < N.length := by
    intro y hy
    simp at hy; subst hy
    exact (cast_toNat ha).2 y hx
  obtain ⟨B', hB'⟩ := h'.trees [x] hi
  exact ⟨x, hx, B', hB', by rw [(tree_same h.wf h.closed hs h.roots hi hB hB').1]; exact hc⟩
theorem TyCase.same {N : List Nd} {c c' : Nat → Nat} (h : ClsOk N c) (h' : ClsOk N c') (hs : SameC N c c') {xs : List Int} {err : Int} {F : Fo} (k : TyCase N c xs err F) : TyCase N c' xs err F := by
  cases k with
  | unknown ha => exact .unknown ha
  | big ha hb => exact .big ha (bigIn_same h h' hs ha hb)
  | fit ha hb T hT =>
    obtain ⟨T', hT'⟩ := h'.trees (xs.map Int.toNat) (cast_toNat ha).2
    rw [← (tree_same h.wf h.closed hs h.roots (cast_toNat ha).2 hT hT').2]
    exact .fit ha (fun hb' => hb (bigIn_same h' h hs.symm ha hb')) T' hT'
/-- Alike, or not. -/
def AlIs (N : List Nd) (c : Nat → Nat) (a : Nat) (b : Int) (r : Bool) : Prop := (inB N.length b = false ∧ r = false) ∨ (inB N.length b = true ∧ (r = true ↔ AlikeIn N c a b.toNat))
open Classical in
theorem AlIs.ex (N : List Nd) (c : Nat → Nat) (a : Nat) (b : Int) : ∃ r, AlIs N c a b r := by
  cases hb : inB N.length b
  · exact ⟨false, .inl ⟨hb, rfl⟩⟩
  · exact ⟨decide (AlikeIn N c a b.toNat), .inr ⟨hb, by simp⟩⟩
theorem alikeIn_same {N : List Nd} {c c' : Nat → Nat} (hs : SameC N c c') {a b : Nat} (h : AlikeIn N c a b) : AlikeIn N c' a b := by
  obtain ⟨e, he, hst⟩ := h
  refine ⟨e, he.of hs.2, fun i j hi hj hv hij => ?_⟩
  refine hs.1 i j hi hj (hst i j hi hj (fun k p hk hki => hv k p hk ?_) hij)
  exact hs.1 k i (List.getElem?_eq_some_iff.1 hk).1 hi hki
theorem AlIs.same {N : List Nd} {c c' : Nat → Nat} (hs : SameC N c c') {a : Nat} {b : Int} {r : Bool} (h : AlIs N c a b r) : AlIs N c' a b r := by
  rcases h with h | ⟨h1, h2⟩
  · exact .inl h
  · exact .inr ⟨h1, h2.trans ⟨alikeIn_same hs, alikeIn_same hs.symm⟩⟩
/-- Types in new memory, with an error. -/
def TyPost (w : World) (err : Int) (F : Fo) (e : Ending) (w' : World) : Prop :=
  ∃ A c, e = .returned (.tuple #[.slice A F.len c, .int .i64 err]) ∧ FoAt w' (fun b => w.heap.size ≤ b ∧ b < w'.heap.size) A F ∧ Below w.heap.size w w'
theorem TyPost.no {w w' : World} {err : Int} {e : Ending} (h : TypesNo w err e w') : TyPost w err .nil e w' := ⟨none, 0, h.1, .inl rfl, h.2⟩
theorem TyPost.yes {w w' : World} {n : Nat} {F : Fo} {e : Ending} (h : TypesPost w n F e w') (hn : F.len = n) : TyPost w 0 F e w' := by
  obtain ⟨A, c, rfl, h1, h2⟩ := h
  exact ⟨A, c, by rw [hn], h1, h2⟩
theorem live_types_case {M : Nat → Prop} {g : Nat} {N : List Nd} {c : Nat → Nat} {w : World} (h : Live M g N c w) (A : Option Addr) (cap : Nat) (xs : List Int) (hA : Ints w A xs) (hlen : xs.length ≤ 1000000) {err : Int} {F : Fo} (hc : TyCase N c xs err F) :
    Calls Try.prog 15 #[.pointer (some ⟨g, 0, none⟩), .slice A xs.length cap] w (TyPost w err F) := by
  cases hc with
  | unknown ha => exact (live_types_no h A cap xs hA hlen ha).mono fun _ _ k => TyPost.no k
  | big ha hb =>
    have h1 := cast_toNat ha
    have h2 := live_types_big h A cap (xs.map Int.toNat) (by unfold Nats; rw [h1.1]; exact hA) h1.2 (by simpa using hlen) hb
    rw [List.length_map] at h2
    exact h2.mono fun _ _ k => TyPost.no k
  | fit ha hb T hT =>
    have h1 := cast_toNat ha
    have h2 := live_types h A cap (xs.map Int.toNat) (by unfold Nats; rw [h1.1]; exact hA) h1.2 (by simpa using hlen) T hT (fun x hx B hB => Nat.le_of_not_lt (fun hc => hb ⟨x, hx, B, hB, hc⟩))
    rw [List.length_map] at h2
    exact h2.mono fun _ _ k => TyPost.yes k (by rw [ren_len, hT.len, List.length_map])
theorem rlive_types_case {M : Nat → Prop} {v : Value} {N : List Nd} {c : Nat → Nat} {w : World} (h : RLive M v N c w) (A : Option Addr) (cap : Nat) (xs : List Int) (hA : Ints w A xs) (hlen : xs.length ≤ 1000) {err : Int} {F : Fo} (hc : TyCase N c xs err F) :
    Calls Try.prog 17 #[.agg #[v], .slice A xs.length cap] w (TyPost w err F) := by
  have htr := fun (is : List Nat) (T : Fo) hi hT => h.tree (is := is) (T := T) hi hT
  have hcls := h.cls
  have hfo := h.forms
  obtain ⟨⟨ad, R, d, k1, rfl, k4, k5, k6⟩, k7⟩ := h
  cases hc with
  | unknown ha => exact (rtypes_no k1 A cap xs hA (by omega) ha).mono fun _ _ k => TyPost.no k
  | big ha hb =>
    have h1 := cast_toNat ha
    obtain ⟨T, hT⟩ := hcls.trees _ h1.2
    have h2 := rtypes_any k1 k4.inv A cap (xs.map Int.toNat) (by unfold Nats; rw [h1.1]; exact hA) h1.2 (by simpa using hlen) T (htr _ _ h1.2 hT)
    rw [List.length_map] at h2
    refine h2.mono fun _ _ k => TyPost.no (k.2 ?_)
    obtain ⟨x, hx, B, hB, hc⟩ := hb
    exact ⟨x, hx, B, htr _ _ (by intro i hi; simp at hi; subst hi; exact h1.2 i hx) hB, hc⟩
  | fit ha hb T hT =>
    have h1 := cast_toNat ha
    have h2 := rtypes_any k1 k4.inv A cap (xs.map Int.toNat) (by unfold Nats; rw [h1.1]; exact hA) h1.2 (by simpa using hlen) T (htr _ _ h1.2 hT)
    rw [List.length_map] at h2
    refine h2.mono fun _ _ k => TyPost.yes (k.1 ?_) (by rw [ren_len, hT.len, List.length_map])
    intro x hx B hB
    exact Nat.le_of_not_lt (fun hc => hb ⟨x, hx, B, ⟨idF, fun i hi => hfo i hi, hB⟩, hc⟩)
theorem rlive_size {M : Nat → Prop} {v : Value} {N : List Nd} {c : Nat → Nat} {w : World} (h : RLive M v N c w) (i : Int) (sz : Nat) (hs : SzIs N c i sz) :
    Calls Try.prog 14 #[.agg #[v], .int .i64 i] w fun e w' => e = .returned (.int .i64 (sz : Int)) ∧ Below w.heap.size w w' := by
  have htr := fun (is : List Nat) (T : Fo) hi hT => h.tree (is := is) (T := T) hi hT
  obtain ⟨⟨ad, R, d, k1, rfl, k4, k5, k6⟩, k7⟩ := h
  rcases hs with ⟨h1, rfl⟩ | ⟨h1, T, hT, rfl⟩
  · exact rSize_no k1 i h1
  · have h2 := inB_nat h1
    have := rSize_yes k1 k4.inv i.toNat h2.2 T (htr _ _ (by simpa using h2.2) hT)
    rwa [← h2.1] at this
theorem live_size' {M : Nat → Prop} {g : Nat} {N : List Nd} {c : Nat → Nat} {w : World} (h : Live M g N c w) (i : Int) (sz : Nat) (hs : SzIs N c i sz) :
    Calls Try.prog 13 #[.pointer (some ⟨g, 0, none⟩), .int .i64 i] w fun e w' => e = .returned (.int .i64 (sz : Int)) ∧ Below w.heap.size w w' := by
  refine live_size h i sz ?_
  rcases hs with ⟨h1, rfl⟩ | ⟨h1, T, hT, rfl⟩
  · exact .inl ⟨by rw [allIn_one]; exact h1, rfl⟩
  · exact .inr ⟨by rw [allIn_one]; exact h1, T, hT, rfl⟩
def BoolAt (w : World) (r : Bool) (e : Ending) (w' : World) : Prop := e = .returned (.bool r) ∧ Below w.heap.size w w'
theorem rlive_alike {M : Nat → Prop} {v : Value} {N : List Nd} {c : Nat → Nat} {w : World} (h : RLive M v N c w) (a : Nat) (b : Int) (ha : a < N.length) (r : Bool) (hr : AlIs N c a b r) :
    Calls Try.prog 20 #[.agg #[v], .int .i64 (a : Int), .int .i64 b] w (BoolAt w r) := by
  obtain ⟨⟨ad, R, d, k1, rfl, k4, k5, k6⟩, k7⟩ := h
  rcases hr with ⟨h1, rfl⟩ | ⟨h1, h2⟩
  · exact ralike_no k1 a b ha h1
  · have h3 := inB_nat h1
    have := ralike_any k1 k4 a b.toNat ha h3.2
    rw [← h3.1] at this
    refine this.mono ?_
    rintro e w' ⟨⟨r', rfl, hr'⟩, hb⟩
    have : r' = r := Bool.eq_iff_iff.2 (hr'.trans h2.symm)
    subst this
    exact ⟨rfl, hb⟩
set_option maxHeartbeats 1000000 in
theorem alike_no {w : World} {base : Nat} {L : Lay} {S : PS} (h : St w base L S) (a b : Int) (hall : allIn S.nodes.length [a, b] = false) :
    Calls Try.prog 19 #[.pointer (some ⟨L.g, 0, none⟩), .int .i64 a, .int .i64 b] w fun e w' => e = .returned (.bool false) ∧ Below w.heap.size w w' := by
  have hb1 : Below w.heap.size w (w.alloc (.cells #[.int .i64 a, .int .i64 b] 3)) := (Below.refl _ _).alloc (Nat.le_refl _) _
  have HK := hide (known_any (h.later hb1) (some ⟨w.heap.size, 0, none⟩) 2 [a, b] (ints_two w a b _) (by simp))
  rw [hall] at HK
  have Hb1 := hide hb1
  clear h hb1 hall
  go_enter Try.func19, Try.ntmps19
  go_wp2_with fail
  refine HK.out.mono ?_
  rintro e w1 ⟨rfl, rfl⟩
  go_wp2
  go_ret
  exact ⟨rfl, Hb1.out⟩
section
variable {K F : Nat → Prop} {w0 w w' : World} {g : Nat} {N N' : List Nd} {c c' : Nat → Nat} {v : Value}
theorem Two.cls (h : Two K w0 g N c v N' c' w) : ClsOk N c ∧ ClsOk N' c' := by
  obtain ⟨⟨M, M', h1, h2, h3, h4⟩, h5, h6⟩ := h
  exact ⟨h1.cls, h2.cls⟩
theorem two_size (h : Two K w0 g N c v N' c' w) (i : Int) (sz : Nat) (hs : SzIs N c i sz) :
    Calls Try.prog 13 #[.pointer (some ⟨g, 0, none⟩), .int .i64 i] w fun e w' => e = .returned (.int .i64 (sz : Int)) ∧ Below w.heap.size w w' := by
  obtain ⟨⟨M, M', h1, h2, h3, h4⟩, h5, h6⟩ := h
  exact live_size' h1 i sz hs
theorem twor_size (h : Two K w0 g N c v N' c' w) (i : Int) (sz : Nat) (hs : SzIs N' c' i sz) :
    Calls Try.prog 14 #[.agg #[v], .int .i64 i] w fun e w' => e = .returned (.int .i64 (sz : Int)) ∧ Below w.heap.size w w' := by
  obtain ⟨⟨M, M', h1, h2, h3, h4⟩, h5, h6⟩ := h
  exact rlive_size h2 i sz hs
theorem two_types (h : Two K w0 g N c v N' c' w) (A : Option Addr) (cap : Nat) (xs : List Int) (hA : Ints w A xs) (hlen : xs.length ≤ 1000000) {err : Int} {F : Fo} (hc : TyCase N c xs err F) :
    Calls Try.prog 15 #[.pointer (some ⟨g, 0, none⟩), .slice A xs.length cap] w (TyPost w err F) := by
  obtain ⟨⟨M, M', h1, h2, h3, h4⟩, h5, h6⟩ := h
  exact live_types_case h1 A cap xs hA hlen hc
theorem twor_types (h : Two K w0 g N c v N' c' w) (A : Option Addr) (cap : Nat) (xs : List Int) (hA : Ints w A xs) (hlen : xs.length ≤ 1000) {err : Int} {F : Fo} (hc : TyCase N' c' xs err F) :
    Calls Try.prog 17 #[.agg #[v], .slice A xs.length cap] w (TyPost w err F) := by
  obtain ⟨⟨M, M', h1, h2, h3, h4⟩, h5, h6⟩ := h
  exact rlive_types_case h2 A cap xs hA hlen hc
theorem twor_alike (h : Two K w0 g N c v N' c' w) (a : Nat) (b : Int) (ha : a < N'.length) (r : Bool) (hr : AlIs N' c' a b r) :
    Calls Try.prog 20 #[.agg #[v], .int .i64 (a : Int), .int .i64 b] w (BoolAt w r) := by
  obtain ⟨⟨M, M', h1, h2, h3, h4⟩, h5, h6⟩ := h
  exact rlive_alike h2 a b ha r hr
theorem two_alike_is (h : Two K w0 g N c v N' c' w) (a : Nat) (b : Int) (ha : a < N.length) (r : Bool) (hr : AlIs N c a b r) :
    Calls Try.prog 19 #[.pointer (some ⟨g, 0, none⟩), .int .i64 (a : Int), .int .i64 b] w fun e w' => e = .returned (.bool r) ∧ Two K w0 g N c v N' c' w' ∧ Keeps K w w' := by
  rcases hr with ⟨h1, rfl⟩ | ⟨h1, h2⟩
  · have hz : ∀ w1, Below w.heap.size w w1 → Two K w0 g N c v N' c' w1 ∧ Keeps K w w1 := fun w1 hb => ⟨h.later hb, hb.size, fun b hK => hb.block b (h.kept b hK)⟩
    obtain ⟨⟨M, M', h1', h2', h3, h4⟩, h5, h6⟩ := h
    obtain ⟨⟨L, S, d, k1, k2, k3, k4, k5, k6⟩, k7⟩ := h1'
    subst k1; subst k3
    refine (alike_no k2 (a : Int) b (by rw [allIn_inB, h1]; simp)).mono ?_
    rintro e w1 ⟨rfl, hb⟩
    exact ⟨rfl, hz w1 hb⟩
  · have h3 := inB_nat h1
    have := two_alike h a b.toNat ha h3.2
    rw [← h3.1] at this
    refine this.mono ?_
    rintro e w' ⟨⟨r', rfl, hr'⟩, hb⟩
    have : r' = r := Bool.eq_iff_iff.2 (hr'.trans h2.symm)
    subst this
    exact ⟨rfl, hb⟩
end
end Go.Proofs.Ytafpbdmggnfdnaa

/- cut, great. -/
namespace Go.Proofs.Ytafpbdmggnfdnaa
open Go.RowKit
set_option linter.unusedVariables false

theorem OpsAt.take {w : World} {A : Option Addr} {ops : List OpV} (h : OpsAt w A ops) (n : Nat) : OpsAt w A (ops.take n) := by
  intro hne
  obtain ⟨b, off, e, hb, hc⟩ := h (by intro e; subst e; simp at hne)
  refine ⟨b, off, e, hb, fun k hk => ?_⟩
  have hk' : k < ops.length := by simp at hk; omega
  have := hc k hk'
  simpa using this
theorem OpsAt.drewN {w : World} {A : Option Addr} {ops : List OpV} (h : OpsAt w A ops) (n : Nat) : OpsAt (w.drewN n) A ops := h
def weight (ops : List OpV) : Nat := (ops.map fun o => o.args.length + o.name.size / 16).sum
theorem weight_fit {ops : List OpV} (hl : ops.length ≤ 60) (hw : weight ops ≤ 500) : OpsFit ops := by
  refine ⟨hl, fun o ho => ?_⟩
  have : o.args.length + o.name.size / 16 ≤ weight ops := by
    clear hl hw
    unfold weight
    induction ops with
    | nil => simp at ho
    | cons p ops ih =>
      rw [List.map_cons, List.sum_cons]
      rcases List.mem_cons.1 ho with rfl | ho
      · omega
      · have := ih ho; omega
  omega
theorem weight_snoc (ops : List OpV) (k : Nat) (hk : k < ops.length) : weight (ops.take (k + 1)) = weight (ops.take k) + (ops[k].args.length + ops[k].name.size / 16) := by
  unfold weight
  rw [List.take_succ_eq_append_getElem hk, List.map_append, List.sum_append]; simp
/-- A script as it is handed in: lengths that can be. -/
def OpsLen (ops : List OpV) : Prop := ops.length ≤ 140737488351232 ∧ ∀ o ∈ ops, o.args.length ≤ 140737488351232 ∧ o.name.size ≤ 140737488351232
set_option maxRecDepth 100000 in
set_option maxHeartbeats 1000000 in
theorem cut_any (w : World) (A : Option Addr) (cap : Nat) (ops : List OpV) (hA : OpsAt w A ops) (hl : OpsLen ops) (hcap : ops.length ≤ cap) :
    Calls Try.prog 10 #[.slice A ops.length cap] w fun e w' => e = .returned (.slice A (ops.take 60).length cap) ∧ w = w' := by
  have h1 := hl.1
  clear hl
  by_cases h : 60 < ops.length
  · have k1 : decide ((60 : Int) < (ops.length : Int)) = true := by simp; omega
    obtain ⟨b, off, rfl, -⟩ := hA (by intro e; rw [e] at h; exact absurd h (by decide))
    have hsl := fun W => run_slice_h (P := Try.prog) W 22 (some ⟨b, off, none⟩) ops.length cap Try.underlying22 .i64 (60 : Int) (by omega) (by omega)
    have HL2 : Hid ((ops.take 60).length = 60) := hide (by rw [List.length_take]; omega)
    go_enter Try.func10, Try.ntmps10
    go_wp2
    go_ret
    exact ⟨by rw [HL2.out]; rfl, rfl⟩
  · have k1 : decide ((60 : Int) < (ops.length : Int)) = false := by simp; omega
    have HL2 : Hid ((ops.take 60).length = ops.length) := hide (by rw [List.length_take]; omega)
    go_enter Try.func10, Try.ntmps10
    go_wp2
    go_ret
    exact ⟨by rw [HL2.out]; rfl, rfl⟩
def heavyB (ops : List OpV) : Bool := decide (500 < weight ops)
set_option maxRecDepth 100000 in
set_option maxHeartbeats 2000000 in
theorem heavy_any (w : World) (A : Option Addr) (cap : Nat) (ops : List OpV) (hA : OpsAt w A ops) (hl : OpsLen ops) (h60 : ops.length ≤ 60) :
    Calls Try.prog 11 #[.slice A ops.length cap] w fun e w' => e = .returned (.bool (heavyB ops)) ∧ Below w.heap.size w w' := by
  have HA := hide hA; have HL := hide hl
  clear hA hl
  go_enter Try.func11, Try.ntmps11
  go_wp2
  go_loopw [3, 4] (fun vn vi wr => ∃ (k n : Nat), vi = .int .i64 k ∧ vn = .int .i64 n ∧ k ≤ ops.length ∧ n ≤ k * 1000000000000000 ∧ Hid (n = weight (ops.take k)) ∧ Hid (Below w.heap.size w wr)) (fun _ vi _ => ops.length - (intOf vi).toNat)
  case atStart => exact ⟨0, 0, rfl, rfl, by omega, by omega, hide rfl, hide (Below.refl _ _)⟩
  case round =>
    obtain ⟨k, n, rfl, rfl, hk, hn, HN, HB⟩ := hrel
    by_cases hlt : k < ops.length
    · obtain ⟨b, off, rfl, hb, d0, d1, d2, -⟩ := HA.out.at_ k hlt
      have hfit := HL.out.2 ops[k] (List.getElem_mem hlt)
      have Hw := hide (weight_snoc ops k hlt)
      obtain ⟨o, ho⟩ : ∃ o, ops[k] = o := ⟨_, rfl⟩
      rw [ho] at d0 d1 d2 hfit Hw
      have e1 := (HB.out.cell (p := ⟨b, off + k * 3 + 1, none⟩) hb).trans d1
      have e2 := (HB.out.cell (p := ⟨b, off + k * 3 + 2, none⟩) hb).trans d2
      have hal := hfit.1; have hnl := hfit.2
      clear d0 d1 d2 hfit ho
      obtain ⟨q, hq⟩ : ∃ q, o.name.size / 16 = q := ⟨_, rfl⟩
      have hql : q ≤ o.name.size := by omega
      rw [hq] at Hw
      have j0 : (o.name.size : Int).tdiv 16 = (q : Int) := by rw [← hq]; rw [Int.tdiv_eq_ediv_of_nonneg (by omega)]; omega
      have j1 : IntKind.i64.wrap (q : Int) = (q : Int) := IntWalk.i64_in _ (by omega)
      have j2 : IntKind.i64.wrap ((o.args.length : Int) + (q : Int)) = (o.args.length : Int) + (q : Int) := IntWalk.i64_in _ (by omega)
      have j3 : IntKind.i64.wrap ((n : Int) + ((o.args.length : Int) + (q : Int))) = (n : Int) + ((o.args.length : Int) + (q : Int)) := IntWalk.i64_in _ (by omega)
      have j4 : (k : Int) < (ops.length : Int) := by omega
      have j5 : (0 : Int) ≤ (k : Int) := by omega
      clear hq
      go_wp2
      go_quiet (fail)
      have Hb2 := hide (below_drewN HB.out nq)
      clear j0 j1 j2 j3 j4 j5 e1 e2
      go_wp2
      go_roundw
      case measure => simp [intOf]; omega
      case rel => exact ⟨k + 1, n + (o.args.length + q), by go_num, by go_num, by omega, by omega, hide (by rw [Hw.out, HN.out]), Hb2⟩
    · obtain rfl : k = ops.length := by omega
      have HG : Hid (heavyB ops = decide (500 < n)) := hide (by unfold heavyB; rw [HN.out, List.take_of_length_le (Nat.le_refl _)])
      go_wp2
      go_ret
      exact ⟨ret_bool (by rw [HG.out]; simp; omega), HB.out⟩
end Go.Proofs.Ytafpbdmggnfdnaa

/- SameInts of the same numbers. -/
namespace Go.Proofs.Ytafpbdmggnfdnaa
open Go.RowKit
set_option linter.unusedVariables false

set_option maxRecDepth 100000 in
set_option maxHeartbeats 1000000 in
theorem sameInts_any (w : World) (A B : Option Addr) (c d : Nat) (xs : List Int) (hA : Ints w A xs) (hB : Ints w B xs) (hl : xs.length ≤ 1000000) :
    Calls Try.prog 22 #[.slice A xs.length c, .slice B xs.length d] w fun e w' => e = .returned (.bool true) ∧ ∃ n, w' = w.drewN n := by
  have HA := hide hA; have HB := hide hB
  clear hA hB
  go_enter Try.func22, Try.ntmps22
  go_wp2
  go_loopw [5] (fun vi wr => ∃ k q : Nat, vi = .int .i64 k ∧ k ≤ xs.length ∧ wr = w.drewN q) (fun vi _ => xs.length - (intOf vi).toNat)
  case atStart => exact ⟨0, 0, rfl, by omega, rfl⟩
  case round =>
    obtain ⟨k, q, rfl, hk, rfl⟩ := hrel
    by_cases hlt : k < xs.length
    · obtain ⟨b, off, rfl, hb, d0⟩ := HA.out.at_ k hlt
      obtain ⟨b', off', rfl, hb', d1⟩ := HB.out.at_ k hlt
      obtain ⟨x, hx⟩ : ∃ x, xs[k] = x := ⟨_, rfl⟩
      rw [hx] at d0 d1
      have d0' : (w.drewN q).cell? ⟨b, off + k, none⟩ = some (.int .i64 x) := d0
      have d1' : (w.drewN q).cell? ⟨b', off' + k, none⟩ = some (.int .i64 x) := d1
      have j1 : (k : Int) < (xs.length : Int) := by omega
      have j2 : (0 : Int) ≤ (k : Int) := by omega
      obtain ⟨W1, hW1⟩ : ∃ W1, w.drewN q = W1 := ⟨_, rfl⟩
      rw [hW1] at d0' d1'
      simp only [hW1]
      have HW1 := hide hW1
      clear hx hW1 d0 d1
      go_wp2
      go_quiet (fail)
      go_wp2
      go_roundw
      case measure => simp [intOf]; omega
      case rel => exact ⟨k + 1, q + nq, by go_num, by omega, by rw [← HW1.out]; simp [World.drewN, Nat.add_assoc]⟩
    · obtain rfl : k = xs.length := by omega
      go_wp2
      go_ret
      exact ⟨rfl, q, rfl⟩
end Go.Proofs.Ytafpbdmggnfdnaa

/- alive answers true. -/
namespace Go.Proofs.Ytafpbdmggnfdnaa
open Go.RowKit
set_option linter.unusedVariables false

theorem only_low {M : Nat → Prop} {B : Nat} {w0 w w' : World} (hb : Below B w0 w) (ho : Only M w w') (hB : B ≤ w.heap.size) (hM : ∀ b, M b → B ≤ b) : Below B w0 w' := Only.below_trans hb ho (fun b _ h => hM b h) hB
theorem more_low {M : Nat → Prop} {B : Nat} {w w' : World} (hB : B ≤ w.heap.size) (hM : ∀ b, M b → B ≤ b) : ∀ b, more M w w' b → B ≤ b := by
  rintro b (h | h)
  · exact hM b h
  · omega
/-- A store that is new since w0. -/
structure Own (w0 : World) (g : Nat) (N : List Nd) (c : Nat → Nat) (w : World) : Prop where
  out : ∃ M, Live M g N c w ∧ ∀ b, M b → w0.heap.size ≤ b
  below : Below w0.heap.size w0 w
section
variable {w0 w : World} {g : Nat} {N : List Nd} {c : Nat → Nat}
theorem Own.keep (h : Own w0 g N c w) {w' : World} (hb : Below w.heap.size w w') : Own w0 g N c w' := by
  obtain ⟨⟨M, h1, h2⟩, h3⟩ := h
  exact ⟨⟨M, h1.below hb, h2⟩, h3.trans (hb.mono h3.size)⟩
theorem own_new (w0 w : World) (h : Below w0.heap.size w0 w) : Calls Try.prog 25 #[] w fun e w' => e = .returned (.pointer (some ⟨w.heap.size, 0, none⟩)) ∧ Own w0 w.heap.size [] (fun i => i) w' := by
  refine (live_new w).mono ?_
  rintro e w' ⟨rfl, h1, h2⟩
  exact ⟨rfl, ⟨_, h1, fun b hb => by rw [hb]; exact h.size⟩, h.trans (h2.mono h.size)⟩
theorem own_var (h : Own w0 g N c w) (hm : N.length + 1 ≤ 1000000) : Calls Try.prog 26 #[.pointer (some ⟨g, 0, none⟩)] w fun e w' => e = .returned (.int .i64 (N.length : Int)) ∧ Own w0 g (N ++ [varNd]) (addC N.length c) w' := by
  obtain ⟨⟨M, h1, h2⟩, h3⟩ := h
  refine (live_var h1 hm).mono ?_
  rintro e w' ⟨rfl, k1, k2⟩
  exact ⟨rfl, ⟨_, k1, more_low h3.size h2⟩, only_low h3 k2 h3.size h2⟩
def OwnMade (w0 : World) (g : Nat) (N : List Nd) (c : Nat → Nat) (kind : Int) (name : ByteArray) (xs : List Int) (e : Ending) (w' : World) : Prop :=
  e = .returned (.tuple #[.int .i64 (makeV N kind name xs), .int .i64 (makeErr N.length kind name xs)]) ∧ Own w0 g (makeN N kind name xs) (makeC N c kind name xs) w'
theorem own_con (h : Own w0 g N c w) (name : ByteArray) (A : Option Addr) (cap : Nat) (xs : List Int) (hx : Ints w A xs) (hl : xs.length ≤ 1000000) (hs : name.size ≤ 1000000) (hm : N.length + 1 ≤ 1000000) :
    Calls Try.prog 30 #[.pointer (some ⟨g, 0, none⟩), .string name, .slice A xs.length cap] w (OwnMade w0 g N c 2 name xs) := by
  obtain ⟨⟨M, h1, h2⟩, h3⟩ := h
  refine (live_con h1 name A cap xs hx hl hs hm).mono ?_
  rintro e w' ⟨rfl, k1, k2⟩
  exact ⟨rfl, ⟨_, k1, more_low h3.size h2⟩, only_low h3 k2 h3.size h2⟩
theorem own_pair (h : Own w0 g N c w) (A : Option Addr) (cap : Nat) (xs : List Int) (hx : Ints w A xs) (hl : xs.length ≤ 1000000) (hm : N.length + 1 ≤ 1000000) :
    Calls Try.prog 27 #[.pointer (some ⟨g, 0, none⟩), .slice A xs.length cap] w (OwnMade w0 g N c 3 ByteArray.empty xs) := by
  obtain ⟨⟨M, h1, h2⟩, h3⟩ := h
  refine (live_pair h1 A cap xs hx hl hm).mono ?_
  rintro e w' ⟨rfl, k1, k2⟩
  exact ⟨rfl, ⟨_, k1, more_low h3.size h2⟩, only_low h3 k2 h3.size h2⟩
theorem own_arrow (h : Own w0 g N c w) (a b : Int) (hm : N.length + 1 ≤ 1000000) :
    Calls Try.prog 31 #[.pointer (some ⟨g, 0, none⟩), .int .i64 a, .int .i64 b] w (OwnMade w0 g N c 4 ByteArray.empty [a, b]) := by
  obtain ⟨⟨M, h1, h2⟩, h3⟩ := h
  refine (live_arrow h1 a b hm).mono ?_
  rintro e w' ⟨rfl, k1, k2⟩
  exact ⟨rfl, ⟨_, k1, more_low h3.size h2⟩, only_low h3 k2 h3.size h2⟩
theorem own_len_ (h : Own w0 g N c w) : Calls Try.prog 32 #[.pointer (some ⟨g, 0, none⟩)] w fun e w' => e = .returned (.int .i64 (N.length : Int)) ∧ w = w' := by
  obtain ⟨⟨M, h1, h2⟩, h3⟩ := h
  exact live_len h1
theorem own_unify (h : Own w0 g N c w) (a b : Int) : Calls Try.prog 23 #[.pointer (some ⟨g, 0, none⟩), .int .i64 a, .int .i64 b] w fun e w' => ∃ err c', e = .returned (.int .i64 err) ∧ UniSaid N c a b err c' ∧ Own w0 g N c' w' := by
  obtain ⟨⟨M, h1, h2⟩, h3⟩ := h
  refine (live_unify h1 a b).mono ?_
  rintro e w' ⟨err, c', rfl, k0, k1, k2⟩
  exact ⟨err, c', rfl, k0, ⟨M, k1, h2⟩, only_low h3 k2 h3.size h2⟩
theorem own_alike (h : Own w0 g N c w) (a b : Nat) (ha : a < N.length) (hb : b < N.length) : Calls Try.prog 19 #[.pointer (some ⟨g, 0, none⟩), .int .i64 (a : Int), .int .i64 (b : Int)] w fun e w' => (∃ r : Bool, e = .returned (.bool r) ∧ (r = true ↔ AlikeIn N c a b)) ∧ Own w0 g N c w' := by
  obtain ⟨⟨M, h1, h2⟩, h3⟩ := h
  refine (live_alike h1 a b ha hb).mono ?_
  rintro e w' ⟨k0, k1, k2⟩
  exact ⟨k0, ⟨M, k1, h2⟩, only_low h3 k2 h3.size h2⟩
theorem own_size (h : Own w0 g N c w) (i : Nat) (hi : i < N.length) (T : Fo) (hT : TreeOf N c [i] T) : Calls Try.prog 13 #[.pointer (some ⟨g, 0, none⟩), .int .i64 (i : Int)] w fun e w' => e = .returned (.int .i64 (capped T.cnt : Int)) ∧ Own w0 g N c w' := by
  have h' := h
  obtain ⟨⟨M, h1, h2⟩, h3⟩ := h
  refine (live_size h1 (i : Int) (capped T.cnt : Int) (.inr ⟨by simp [allIn]; omega, T, by simpa using hT, rfl⟩)).mono ?_
  rintro e w' ⟨rfl, hb⟩
  exact ⟨rfl, h'.keep hb⟩
end

theorem OwnMade.yes {w0 w : World} {g : Nat} {N : List Nd} {kind : Int} {name : ByteArray} {xs : List Int} {e : Ending} (h : OwnMade w0 g N (fun i => i) kind name xs e w) (he : makeErr N.length kind name xs = 0) : e = .returned (.tuple #[.int .i64 (N.length : Int), .int .i64 0]) ∧ Own w0 g (N ++ [⟨kind, name, xs.map Int.toNat⟩]) (fun i => i) w := by
  unfold OwnMade makeV makeN makeC at h
  rw [he, if_pos rfl, if_pos rfl, if_pos rfl, addC_id] at h
  exact h
theorem name_ok : kindL bInt.toList = 1 ∧ kindL bList.toList = 1 := by constructor <;> kernel_rfl
set_option maxRecDepth 100000 in
set_option maxHeartbeats 4000000 in
theorem alive_any (w : World) : Calls Try.prog 9 #[] w fun e w' => e = .returned (.bool true) ∧ Below w.heap.size w w' := by
  go_enter Try.func9, Try.ntmps9
  go_wp2_with fail
  refine (own_new w w (Below.refl _ _)).mono ?_
  rintro e w1 ⟨rfl, h1⟩
  have H1 := hide h1; clear h1
  go_wp2_with fail
  refine (own_var H1.out (by decide)).mono ?_
  rintro e w2 ⟨rfl, h2⟩
  rw [show ([] : List Nd).length = 0 from rfl, addC_id] at h2
  have H2 := hide h2; clear h2
  go_wp2_with fail
  refine (own_var H2.out (by decide)).mono ?_
  rintro e w3 ⟨rfl, h3⟩
  rw [addC_id] at h3
  have H3 := hide h3; clear h3
  go_wp2_with fail
  refine (own_con H3.out bInt none 0 [] (fun h => absurd rfl h) (by decide) (by decide) (by decide)).mono ?_
  intro e w4 hp4
  obtain ⟨rfl, h4⟩ := hp4.yes (by unfold makeErr; rw [if_neg (by simp [allIn]), if_neg (by simp [name_ok.1])])
  have H4 := hide h4; clear h4 hp4
  go_wp2_with fail
  refine (own_arrow H4.out 0 0 (by decide)).mono ?_
  intro e w5 hp5
  obtain ⟨rfl, h5⟩ := hp5.yes (by decide)
  have H5 := hide h5; clear h5 hp5
  go_wp2_with fail
  refine (own_arrow H5.out 2 1 (by decide)).mono ?_
  intro e w6 hp6
  obtain ⟨rfl, h6⟩ := hp6.yes (by decide)
  have H6 := hide h6; clear h6 hp6
  go_wp2_with fail
  refine (own_con (H6.out.keep ((Below.refl _ _).alloc (Nat.le_refl _) _)) bList (some ⟨w6.heap.size, 0, none⟩) 1 [0] (ints_one w6 0 _) (by decide) (by decide) (by decide)).mono ?_
  intro e w7 hp7
  obtain ⟨rfl, h7⟩ := hp7.yes (by unfold makeErr; rw [if_neg (by decide), if_neg (by simp [name_ok.2])])
  have H7 : Hid (Own w w.heap.size N6 (fun i => i) w7) := hide h7
  clear h7 hp7
  go_wp2_with fail
  refine (own_unify H7.out 0 5).mono ?_
  rintro e w8 ⟨err, c8, rfl, hs8, h8⟩
  obtain ⟨rfl, rfl⟩ := alive_cycle hs8 (by obtain ⟨⟨M, k, _⟩, _⟩ := h8; exact k.acyc)
  have H8 := hide h8; clear h8 hs8
  go_wp2_with fail
  refine (own_unify H8.out 3 4).mono ?_
  rintro e w9 ⟨err, c9, rfl, hs9, h9⟩
  obtain ⟨rfl, h34⟩ := alive_ok hs9
  have H9 := hide h9; have H34 := hide h34; clear h9 hs9 h34
  have Hw9 : Hid (Wf N6 ∧ Closed N6 c9) := hide (by obtain ⟨⟨M, k, _⟩, _⟩ := H9.out; exact ⟨k.wf, k.closed⟩)
  go_wp2_with fail
  have hb9 : Below w9.heap.size w9 (w9.alloc (Obj.cells #[.int .i64 1, .int .i64 5] 3)) := (Below.refl _ _).alloc (Nat.le_refl _) _
  obtain ⟨⟨M, kL, kM⟩, kB⟩ := H9.out.keep hb9
  obtain ⟨T, hT⟩ := kL.tree [1, 5] (by decide)
  have hTe := alive_tree Hw9.out.1 Hw9.out.2 H34.out hT
  have htypes := live_types kL (some ⟨w9.heap.size, 0, none⟩) 2 [1, 5] (ints_two w9 1 5 _) (by decide) (by decide) T hT (fun x hx B hB => (alive_small Hw9.out.1 Hw9.out.2 H34.out (by simpa using hx) hB).1)
  have hren : ren T = .con 2 bInt .nil (.con 2 bList (.con 2 bInt .nil .nil) .nil) := by rw [hTe]; rfl
  rw [hren] at htypes
  have HB := hide (H9.out.keep hb9)
  clear kL kM kB hT hTe hren hb9
  refine htypes.mono ?_
  rintro e w10 ⟨A, cp, rfl, hat, hb10⟩
  have H10 := hide (HB.out.keep hb10)
  obtain ⟨b, off, rfl, hn1, hn2⟩ : ∃ b off, A = some ⟨b, off, none⟩ ∧ w10.cell? ⟨b, off + 2, none⟩ = some (.string bInt) ∧ w10.cell? ⟨b, off + 6, none⟩ = some (.string bList) := by
    rcases hat with h | ⟨b, off, cs, e1, -, hc, hcell⟩
    · cases h
    · obtain ⟨A1, c1, r1, rfl, -, A2, c2, r2, rfl, -, -⟩ := hc
      exact ⟨b, off, e1, hcell 2 _ rfl, hcell 6 _ rfl⟩
  clear hat hb10 htypes
  have q1 : bInt.toList = [105, 110, 116] := by kernel_rfl
  have q2 : bList.toList = [108, 105, 115, 116] := by kernel_rfl
  go_wp2_with fail
  refine (own_alike H10.out 1 2 (by decide) (by decide)).mono ?_
  rintro e w11 ⟨⟨r, rfl, hr⟩, h11⟩
  obtain rfl : r = true := hr.2 (alive_yes Hw9.out.2 H34.out)
  have H11 := hide h11; clear h11 hr
  go_wp2_with fail
  refine (own_alike H11.out 3 2 (by decide) (by decide)).mono ?_
  rintro e w12 ⟨⟨r, rfl, hr⟩, h12⟩
  obtain rfl : r = false := by
    cases r with
    | false => rfl
    | true => exact absurd (hr.1 rfl) (alive_no c9)
  have H12 := hide h12; clear h12 hr
  go_wp2_with fail
  obtain ⟨T5, hT5⟩ : ∃ T5, TreeOf N6 c9 [5] T5 := by
    obtain ⟨⟨M, k, _⟩, _⟩ := H12.out
    exact k.tree [5] (by decide)
  have hc5 := (alive_small Hw9.out.1 Hw9.out.2 H34.out (.inr rfl) hT5).2 rfl
  refine (own_size H12.out 5 (by decide) T5 hT5).mono ?_
  rw [hc5]
  rintro e w13 ⟨rfl, h13⟩
  have H13 := hide h13; clear h13
  have q3 : (capped 2 : Int) = 2 := rfl
  go_wp2_with fail
  refine (own_len_ H13.out).mono ?_
  rintro e w14 ⟨rfl, rfl⟩
  have q4 : (N6.length : Int) = 6 := rfl
  go_wp2
  go_ret
  exact ⟨rfl, H13.out.below⟩
end Go.Proofs.Ytafpbdmggnfdnaa

/- The walk of the law UnifyTypes. -/
namespace Go.Proofs.Ytafpbdmggnfdnaa
open Go.RowKit
set_option linter.unusedVariables false

set_option maxRecDepth 100000 in
set_option maxHeartbeats 4000000 in
theorem unifyTypes_walk (A : Option Addr) (cap : Nat) (ops0 : List OpV) (A1 : Option Addr) (c1 : Nat) (xs : List Int) (w : World) (hA : OpsAt w A ops0) (hl : OpsLen ops0) (hcap : ops0.length ≤ cap) (hX : Ints w A1 xs) (hxl : xs.length ≤ 140737488351232) :
    Calls Try.prog 4 #[.slice A ops0.length cap, .slice A1 xs.length c1] w fun e w' => e = .returned (.bool true) ∧ Below w.heap.size w w' := by
  obtain ⟨ops, hops⟩ : ∃ ops, ops0.take 60 = ops := ⟨_, rfl⟩
  have h60 : ops.length ≤ 60 := by rw [← hops, List.length_take]; omega
  have hA' : OpsAt w A ops := by rw [← hops]; exact hA.take 60
  have hl' : OpsLen ops := by
    rw [← hops]
    exact ⟨by rw [List.length_take]; have := hl.1; omega, fun o ho => hl.2 o (List.mem_of_mem_take ho)⟩
  have HC := hide (fun W (hW : Below w.heap.size w W) => cut_any W A cap ops0 (hA.below hW) hl hcap)
  rw [hops] at HC
  have HG := hide (fun W (hW : Below w.heap.size w W) => heavy_any W A cap ops (hA'.below hW) hl' h60)
  have HA := hide hA'; have Hl := hide hl'; have HX := hide hX
  clear hops hA hl hA' hl' hX
  go_enter Try.func4, Try.ntmps4
  go_wp2_with fail
  refine (alive_any _).mono ?_
  rintro e w1 ⟨rfl, hb1⟩
  have Hb1 := hide hb1
  clear hb1
  go_wp2_with fail
  refine (HC.out w1 Hb1.out).mono ?_
  rintro e w2 ⟨rfl, rfl⟩
  go_wp2_with fail
  refine (HG.out w1 Hb1.out).mono ?_
  rintro e w2 ⟨rfl, hb2⟩
  have Hb2 := hide (Hb1.out.trans (hb2.mono Hb1.out.size))
  clear hb2
  cases hh : heavyB ops
  · have Hfit : Hid (OpsFit ops) := hide (weight_fit h60 (by unfold heavyB at hh; simpa using hh))
    clear hh
    by_cases h50 : 50 < xs.length
    · have k1 : decide ((50 : Int) < (xs.length : Int)) = true := by simp; omega
      have k2 : decide (50 < xs.length) = true := by simp; omega
      go_wp2
      go_ret
      exact ⟨rfl, Hb2.out⟩
    have k1 : decide ((50 : Int) < (xs.length : Int)) = false := by simp; omega
    have k2 : decide (50 < xs.length) = false := by simp; omega
    go_wp2_with fail
    refine (runs_any w2 A cap ops (HA.out.below Hb2.out) Hfit.out).mono ?_
    rintro e w3 ⟨g, v, B, mcap, N, made, d, d', rfl, hr, hr', hT, hM⟩
    obtain ⟨Av, vcap, hv⟩ := hT.facts.2.2.2.2
    subst hv
    have hsame := (RunsR.same hr hr').2.2
    have hml : made.length ≤ 60 := by have := hr.facts.2.2.2; simp at this; omega
    have HT := hide hT; have HM := hide hM; have Hsame := hide hsame
    have hwl := hT.below.size
    clear hr hr' hT hM hsame hcap k1 k2
    go_upto_region 9 with fail
    have hb4 : Below w3.heap.size w3 (w3.alloc (.cells #[.slice Av N.length vcap] 29)) := (Below.refl _ _).alloc (Nat.le_refl _) _
    have hbox4 := heap_alloc_new w3 (.cells #[.slice Av N.length vcap] 29)
    obtain ⟨w4, hw4⟩ : ∃ w4, w3.alloc (.cells #[.slice Av N.length vcap] 29) = w4 := ⟨_, rfl⟩
    rw [hw4] at hb4 hbox4
    simp only [hw4]
    have hl4 : w3.heap.size < w4.heap.size := (Array.getElem?_eq_some_iff.1 hbox4).1
    have Hb4 := hide hb4; have Hbox4 := hide hbox4
    have Hbw4 := hide ((Hb2.out.trans (HT.out.below.mono Hb2.out.size)).trans (hb4.mono (by have := Hb2.out.size; omega)))
    have HT4 := hide (HT.out.later hb4)
    have HP := hide (placed_any w4 A1 B c1 mcap xs made (HX.out.below Hbw4.out) (Ints.below HM.out hb4) (by omega) (by omega))
    clear hw4 hb4 hbox4
    obtain ⟨ys, hys⟩ : ∃ ys, placedL xs made = ys := ⟨_, rfl⟩
    have hyl : ys.length = xs.length := by rw [← hys, placedL_length]
    rw [hys] at HP
    have hyl' : ys.length ≤ 50 := by omega
    clear hys hyl
    go_wp2_with fail
    refine HP.out.mono ?_
    rintro e w5 ⟨A5, c5, rfl, hi5, hn5, hb5⟩
    have Hi5 := hide hi5
    have Hb45 := hide hb5
    clear hi5 hn5 hb5 HP
    go_wp2_with fail
    refine (copyInts_any A5 c5 ys w5 Hi5.out (by omega)).mono ?_
    rintro e w6 ⟨A6, c6, rfl, hi6, hn6, hb6⟩
    have Hi6 := hide hi6
    have Hb46 := hide (Hb45.out.trans (hb6.mono Hb45.out.size))
    have Hi56 := hide (Hi5.out.below hb6)
    clear hi6 hn6 hb6
    obtain ⟨err, F, hty, hcnt⟩ := TyCase.ex HT.out.cls.1 ys
    have Hty := hide hty
    have Hty' := hide (hty.same HT.out.cls.1 HT.out.cls.2 Hsame.out)
    clear hty
    go_wp2_with fail
    refine (two_types (HT4.out.later Hb46.out) A6 c6 ys Hi6.out (by omega) Hty.out).mono ?_
    rintro e w7 ⟨A7, c7, rfl, hf7, hb7⟩
    have Hb47 := hide (Hb46.out.trans (hb7.mono Hb46.out.size))
    have Hf7 := hide hf7
    have Hi57 := hide (Hi56.out.below hb7)
    have Hi67 := hide (Hi6.out.below hb7)
    have hbox7 := (Hb47.out.block _ hl4).trans Hbox4.out
    obtain ⟨s0, t0⟩ := one_cell hbox7
    clear hf7 hb7 hbox7
    go_wp2_with fail
    refine (twor_types (HT4.out.later Hb47.out) A5 c5 ys Hi57.out (by omega) Hty'.out).mono ?_
    rintro e w8 ⟨A8, c8, rfl, hf8, hb8⟩
    have Hb48 := hide (Hb47.out.trans (hb8.mono Hb47.out.size))
    have hz46 := Hb46.out.size; have hz47 := Hb47.out.size; have hz48 := Hb48.out.size
    have Hf78 := hide (FoAt.keep Hf7.out (P' := fun b => b < w8.heap.size) (fun b hb => by have := hb8.size; omega) (fun p hp => hb8.cell hp.2))
    have Hf88 := hide (FoAt.keep (w' := w8) hf8 (P' := fun b => b < w8.heap.size) (fun b hb => hb.2) (fun p hp => rfl))
    have Hi58 := hide (Hi57.out.below hb8)
    have Hi68 := hide (Hi67.out.below hb8)
    clear hf8 hb8 s0 t0
    have ke : ((err : Int) == err) = true := by simp
    go_wp2_with fail
    refine (sameTypes_any (fun b => b < w8.heap.size) F w8 A7 A8 c7 c8 (by omega) (fun b hb => hb) Hf78.out Hf88.out).mono ?_
    rintro e w9 ⟨rfl, hb9⟩
    have Hb49 := hide (Hb48.out.trans (hb9.mono Hb48.out.size))
    have Hi59 := hide (Hi58.out.below hb9)
    have Hi69 := hide (Hi68.out.below hb9)
    clear hb9
    go_wp2_with fail
    refine (sameInts_any w9 A6 A5 c6 c5 ys Hi69.out Hi59.out (by omega)).mono ?_
    rintro e w10 ⟨rfl, n, rfl⟩
    have Hfin := hide (below_drewN (Hbw4.out.trans (Hb49.out.mono Hbw4.out.size)) n)
    go_wp2
    go_ret
    exact ⟨rfl, Hfin.out⟩
  · clear hh
    go_wp2
    go_ret
    exact ⟨rfl, Hb2.out⟩
end Go.Proofs.Ytafpbdmggnfdnaa
