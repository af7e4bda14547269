/- alive: a store of six nodes. -/
import Derived.Test.YtafpbdmggnfdnaaLive
namespace Go.Proofs.Ytafpbdmggnfdnaa
open Go.RowKit
set_option linter.unusedVariables false

theorem addC_id (n : Nat) : addC n (fun i => i) = fun i => i := by
  funext i; unfold addC; split
  · rename_i h; exact h.symm
  · rfl
/-- A class with a head that is no variable. -/
theorem Stands.con_of {N : List Nd} {c F : Nat → Nat} (hw : Wf N) (hcl : Closed N c) (hF : ∀ i, i < N.length → Form N c (c i) (F (c i))) {i j : Nat} {is : List Nat} {T : Fo} {q : Nd} (hi : i < N.length) (hj : N[j]? = some q) (hij : c j = c i) (hk : q.kind ≠ 1) (h : Stands N c F (i :: is) T) :
    ∃ A T', T = .con q.kind q.name A T' ∧ Stands N c F q.args A ∧ Stands N c F is T' := by
  have Fi := hF i hi
  cases h with
  | @var _ _ T' p hp hkp hr => exact absurd hkp (Fi.head j q p hj hij hk hp)
  | @con _ _ A T' p hp hkp ha hr =>
    obtain ⟨hh, hargs⟩ := hcl (F (c i)) j p q hp hj (Fi.cls.trans hij.symm) hkp hk
    exact ⟨A, T', by rw [hh.1, hh.2.1], ha.congr hh.2.2 hargs, hr⟩

def bInt : ByteArray := ⟨#[105, 110, 116]⟩
def bList : ByteArray := ⟨#[108, 105, 115, 116]⟩
def N6 : List Nd := [varNd, varNd, ⟨2, bInt, []⟩, ⟨4, ByteArray.empty, [0, 0]⟩, ⟨4, ByteArray.empty, [2, 1]⟩, ⟨2, bList, [0]⟩]
theorem forall6 {P : Nat → Prop} (h0 : P 0) (h1 : P 1) (h2 : P 2) (h3 : P 3) (h4 : P 4) (h5 : P 5) (i : Nat) (hi : i < 6) : P i := by
  rcases i with _ | _ | _ | _ | _ | _ | i
  · exact h0
  · exact h1
  · exact h2
  · exact h3
  · exact h4
  · exact h5
  · omega
theorem at6 {i : Nat} {p : Nd} (h : N6[i]? = some p) : i < 6 := by
  have := (List.getElem?_eq_some_iff.1 h).1
  simpa [N6] using this
theorem alive_cycle {err : Int} {c' : Nat → Nat} (h : UniSaid N6 (fun i => i) 0 5 err c') (ha : Acyc N6 c') : err = 130 ∧ c' = fun i => i := by
  rcases h with ⟨h, _⟩ | ⟨_, ⟨_, h⟩ | ⟨_, _, h⟩ | ⟨h1, h2, _⟩⟩
  · exact absurd h (by decide)
  · obtain ⟨g, g1, g2⟩ := ha
    have h1 := g2 5 ⟨2, bList, [0]⟩ rfl 0 (by simp)
    have h2 := g1 0 5 (by decide) (by decide) h.good.ab
    omega
  · refine absurd ?_ (h (fun i => if i = 5 then 0 else i))
    refine ⟨fun i j _ _ e => by have e' : i = j := e; rw [e'], rfl, ?_⟩
    intro i j p q hi hj hij hp hq
    have : i = j := by
      have h1 := at6 hi
      have h2 := at6 hj
      simp only at hij
      by_cases e1 : i = 5 <;> by_cases e2 : j = 5
      · omega
      · rw [if_pos e1, if_neg e2] at hij
        subst hij
        simp [N6] at hj; subst hj; exact absurd rfl hq
      · rw [if_neg e1, if_pos e2] at hij
        subst hij
        simp [N6] at hi; subst hi; exact absurd rfl hp
      · rw [if_neg e1, if_neg e2] at hij; exact hij
    subst this
    rw [hi] at hj; injection hj with hj; subst hj
    exact ⟨⟨rfl, rfl, rfl⟩, fun k a b ha hb => by rw [ha] at hb; injection hb with hb; rw [hb]⟩
  · exact ⟨h1, h2⟩
def e6 (i : Nat) : Nat := if i ≤ 2 then 0 else if i ≤ 4 then 3 else i
theorem good6 : Good N6 (fun i => i) 3 4 e6 := by
  refine ⟨fun i j _ _ e => by have e' : i = j := e; rw [e'], rfl, ?_⟩
  intro i j p q hi hj
  have h1 := at6 hi
  have h2 := at6 hj
  revert hi hj
  refine forall6 (P := fun i => N6[i]? = some p → N6[j]? = some q → e6 i = e6 j → p.kind ≠ 1 → q.kind ≠ 1 → Heads p q ∧ ∀ (k a b : Nat), p.args[k]? = some a → q.args[k]? = some b → e6 a = e6 b) ?_ ?_ ?_ ?_ ?_ ?_ i h1 <;>
  refine forall6 (P := fun j => N6[_]? = some p → N6[j]? = some q → e6 _ = e6 j → p.kind ≠ 1 → q.kind ≠ 1 → Heads p q ∧ ∀ (k a b : Nat), p.args[k]? = some a → q.args[k]? = some b → e6 a = e6 b) ?_ ?_ ?_ ?_ ?_ ?_ j h2 <;>
  · intro hp hq he kp kq
    first
      | exact absurd he (by decide)
      | (simp only [N6, List.getElem?_cons_zero, List.getElem?_cons_succ, Option.some.injEq] at hp hq
         subst hp; subst hq
         first
           | exact absurd rfl kp
           | exact absurd rfl kq
           | (refine ⟨⟨rfl, rfl, rfl⟩, fun k a b ha hb => ?_⟩
              rcases k with _ | _ | k <;> simp at ha hb <;> (try subst ha) <;> (try subst hb) <;> rfl))
theorem acyc6 : Acyc N6 e6 := by
  refine ⟨fun i => if i ≤ 2 then 0 else 1, ?_, fun i p hi => ?_⟩
  · intro i j hi hj
    have h1 : i < 6 := by simpa [N6] using hi
    have h2 : j < 6 := by simpa [N6] using hj
    unfold e6
    intro hij
    show (if i ≤ 2 then 0 else 1) = (if j ≤ 2 then 0 else 1)
    by_cases a : i ≤ 2 <;> by_cases b : j ≤ 2
    · rw [if_pos a, if_pos b]
    · rw [if_pos a, if_neg b] at hij; split at hij <;> omega
    · rw [if_neg a, if_pos b] at hij; split at hij <;> omega
    · rw [if_neg a, if_neg b]
  · have h1 := at6 hi
    revert hi
    refine forall6 (P := fun i => N6[i]? = some p → ∀ a ∈ p.args, (if a ≤ 2 then 0 else 1) < (if i ≤ 2 then 0 else 1)) ?_ ?_ ?_ ?_ ?_ ?_ i h1 <;>
    · intro hp a ha
      simp only [N6, List.getElem?_cons_zero, List.getElem?_cons_succ, Option.some.injEq] at hp
      subst hp
      simp [varNd] at ha
      try (rcases ha with rfl | rfl <;> decide)
      try (subst ha; decide)
theorem alive_ok {err : Int} {c' : Nat → Nat} (h : UniSaid N6 (fun i => i) 3 4 err c') : err = 0 ∧ c' 3 = c' 4 := by
  rcases h with ⟨h, _⟩ | ⟨_, ⟨h0, h⟩ | ⟨_, _, h⟩ | ⟨h1, h2, cl, hl, hn⟩⟩
  · exact absurd h (by decide)
  · exact ⟨h0, h.good.ab⟩
  · exact absurd good6 (h e6)
  · exact absurd (acyc6.of (hl.least e6 good6)) hn
theorem alive_cls {c : Nat → Nat} (hcl : Closed N6 c) (h : c 3 = c 4) : c 0 = c 2 ∧ c 0 = c 1 := by
  obtain ⟨_, h1⟩ := hcl 3 4 _ _ rfl rfl h (by decide) (by decide)
  exact ⟨h1 0 0 2 rfl rfl, h1 1 0 1 rfl rfl⟩
theorem alive_tree {c : Nat → Nat} (hw : Wf N6) (hcl : Closed N6 c) (h : c 3 = c 4) {T : Fo} (hT : TreeOf N6 c [1, 5] T) : T = .con 2 bInt .nil (.con 2 bList (.con 2 bInt .nil .nil) .nil) := by
  obtain ⟨h1, h2⟩ := alive_cls hcl h
  obtain ⟨F, hF, hS⟩ := hT
  obtain ⟨A, T', rfl, ha, hr⟩ := Stands.con_of hw hcl hF (by decide) (j := 2) (q := ⟨2, bInt, []⟩) rfl (h1.symm.trans h2) (by decide) hS
  cases ha
  obtain ⟨B, T'', rfl, hb, hr2⟩ := Stands.con_of hw hcl hF (by decide) (j := 5) (q := ⟨2, bList, [0]⟩) rfl rfl (by decide) hr
  cases hr2
  obtain ⟨C, T3, rfl, hc, hr3⟩ := Stands.con_of hw hcl hF (by decide) (j := 2) (q := ⟨2, bInt, []⟩) rfl h1.symm (by decide) hb
  cases hc; cases hr3
  rfl
theorem alive_small {c : Nat → Nat} (hw : Wf N6) (hcl : Closed N6 c) (h : c 3 = c 4) {x : Nat} (hx : x = 1 ∨ x = 5) {T : Fo} (hT : TreeOf N6 c [x] T) : T.cnt ≤ 300 ∧ (x = 5 → T.cnt = 2) := by
  obtain ⟨h1, h2⟩ := alive_cls hcl h
  obtain ⟨F, hF, hS⟩ := hT
  rcases hx with rfl | rfl
  · obtain ⟨A, T', rfl, ha, hr⟩ := Stands.con_of hw hcl hF (by decide) (j := 2) (q := ⟨2, bInt, []⟩) rfl (h1.symm.trans h2) (by decide) hS
    cases ha; cases hr
    exact ⟨by simp [Fo.cnt], fun e => by cases e⟩
  · obtain ⟨B, T'', rfl, hb, hr2⟩ := Stands.con_of hw hcl hF (by decide) (j := 5) (q := ⟨2, bList, [0]⟩) rfl rfl (by decide) hS
    cases hr2
    obtain ⟨C, T3, rfl, hc, hr3⟩ := Stands.con_of hw hcl hF (by decide) (j := 2) (q := ⟨2, bInt, []⟩) rfl h1.symm (by decide) hb
    cases hc; cases hr3
    exact ⟨by simp [Fo.cnt], fun _ => by simp [Fo.cnt]⟩
theorem alive_yes {c : Nat → Nat} (hcl : Closed N6 c) (h : c 3 = c 4) : AlikeIn N6 c 1 2 := by
  obtain ⟨h1, h2⟩ := alive_cls hcl h
  exact ⟨c, ⟨fun _ _ _ _ e => e, h2.symm.trans h1, hcl⟩, Still.refl _ _⟩
theorem alive_no (c : Nat → Nat) : ¬ AlikeIn N6 c 3 2 := by
  rintro ⟨e, he, _⟩
  have := (he.closed 3 2 _ _ rfl rfl he.ab (by decide) (by decide)).1.1
  exact absurd this (by decide)
end Go.Proofs.Ytafpbdmggnfdnaa
