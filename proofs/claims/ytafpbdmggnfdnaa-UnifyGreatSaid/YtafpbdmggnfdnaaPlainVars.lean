/- Plain: the variables within each node of a store, out of the trees; a forest whose variables are numbered as they come. -/
import Derived.Test.YtafpbdmggnfdnaaPlainSearch
import Derived.Test.YtafpbdmggnfdnaaStoreSize
namespace Go.Proofs.Ytafpbdmggnfdnaa
set_option linter.unusedVariables false

open Classical in
/-- The variables within a node. -/
noncomputable def tvOf (N : List Nd) (c F : Nat → Nat) (x : Nat) : List Nat := if h : ∃ T, Stands N c F [x] T then (Classical.choose h).vars else []
theorem tvOf_eq {N : List Nd} {c F : Nat → Nat} {x : Nat} {T : Fo} (h : Stands N c F [x] T) : tvOf N c F x = T.vars := by
  have hx : ∃ T, Stands N c F [x] T := ⟨T, h⟩
  unfold tvOf
  rw [dif_pos hx, (Classical.choose_spec hx).unique h]
theorem Stands.cons_split {N : List Nd} {c F : Nat → Nat} {x : Nat} {xs : List Nat} {T : Fo} (h : Stands N c F (x :: xs) T) : ∃ A B, T = A.app B ∧ Stands N c F [x] A ∧ Stands N c F xs B := Stands.split (is := [x]) h
theorem Stands.vars_eq {N : List Nd} {c F : Nat → Nat} {xs : List Nat} : ∀ {T : Fo}, Stands N c F xs T → xs.flatMap (tvOf N c F) = T.vars := by
  induction xs with
  | nil => intro T h; cases h; rfl
  | cons x xs ih =>
    intro T h
    obtain ⟨A, B, rfl, h1, h2⟩ := h.cons_split
    rw [List.flatMap_cons, tvOf_eq h1, ih h2, Fo.vars_app]
def headOf (S : PS) (r : Nat) : Option (List Nat) := match S.nodes[par S.forms r]? with | some p => if p.kind = 1 then none else some p.args | none => none
theorem Ok.varsOf {S : PS} {c d : Nat → Nat} (h : Ok S c d) : ∃ g, VarsOf S.nodes.length c (fun r => match S.nodes[par S.forms r]? with | some p => if p.kind = 1 then none else some p.args | none => none) g (tvOf S.nodes c (par S.forms)) := by
  obtain ⟨g, g1, g2⟩ := h.acyc
  refine ⟨g, h.roots, fun i hi => ?_, fun r hr hc hh => ?_, fun r al hr hc hh => ?_⟩
  · obtain ⟨T, hT⟩ := h.stands [i] (by simpa using hi)
    rw [tvOf_eq hT]
    refine tvOf_eq (hT.congr rfl (fun k a b ha hb => ?_))
    rcases k with _ | k
    · simp at ha hb; subst ha; subst hb; exact (h.roots i hi).2.symm
    · simp at ha
  · obtain ⟨p, hp⟩ : ∃ p, S.nodes[par S.forms r]? = some p := ⟨_, List.getElem?_eq_getElem (by have := (h.forms r hr).lt; rwa [hc] at this)⟩
    simp only [hp] at hh
    have hk : p.kind = 1 := by
      by_cases e : p.kind = 1
      · exact e
      · rw [if_neg e] at hh; cases hh
    have hS : Stands S.nodes c (par S.forms) [r] (.var (c r) .nil) := .var (by rw [hc]; exact hp) hk .nil
    rw [tvOf_eq hS]
    simp [Fo.vars, hc]
  · obtain ⟨p, hp⟩ : ∃ p, S.nodes[par S.forms r]? = some p := ⟨_, List.getElem?_eq_getElem (by have := (h.forms r hr).lt; rwa [hc] at this)⟩
    simp only [hp] at hh
    have hk : p.kind ≠ 1 ∧ p.args = al := by
      by_cases e : p.kind = 1
      · rw [if_pos e] at hh; cases hh
      · rw [if_neg e] at hh; injection hh with hh; exact ⟨e, hh⟩
    have hlt : ∀ x ∈ p.args, x < S.nodes.length := fun x hx => by
      have h1 := (h.inv.wf _ p hp).1 x hx
      have h2 := (List.getElem?_eq_some_iff.1 hp).1
      omega
    obtain ⟨A, hA⟩ := h.stands p.args hlt
    have hS : Stands S.nodes c (par S.forms) [r] (.con p.kind p.name A .nil) := .con (by rw [hc]; exact hp) hk.1 hA .nil
    rw [tvOf_eq hS, ← hk.2, hA.vars_eq]
    refine ⟨by simp [Fo.vars], fun x hx => ⟨hlt x hx, ?_⟩⟩
    have h1 := g2 _ p hp x hx
    have h2 := g1 (c x) x (h.roots x (hlt x hx)).1 (hlt x hx) (h.roots x (hlt x hx)).2
    have h3 := h.forms r hr
    rw [hc] at h3
    have h4 := g1 (par S.forms r) r h3.lt hr (by rw [h3.cls, hc])
    omega

/-- The variables' numbers, as they come. -/
def ren (T : Fo) : Fo := T.mapv (fun v => (addNew [] T.vars).idxOf v)
/-- What the map holds behind these variables. -/
def numAt (pre : List Nat) (v : Nat) : Option Nat := if v ∈ pre then some (pre.idxOf v) else none
theorem numAt_nil : numAt [] = fun _ => none := by funext v; simp [numAt]
theorem numAt_snoc (pre : List Nat) (x : Nat) (hx : x ∉ pre) (v : Nat) : numAt (pre ++ [x]) v = if v = x then some pre.length else numAt pre v := by
  unfold numAt
  by_cases e : v = x
  · subst e
    rw [if_pos (by simp), if_pos rfl, List.idxOf_append, if_neg hx]
    simp
  · rw [if_neg e]
    by_cases hv : v ∈ pre
    · rw [if_pos (by simp [hv]), if_pos hv, List.idxOf_append, if_pos hv]
    · rw [if_neg (by simp [hv, e]), if_neg hv]
theorem ren_eq {T : Fo} : T.mapv (fun v => (numAt (addNew [] T.vars) v).getD 0) = ren T := by
  unfold ren
  refine Fo.mapv_congr T (fun v hv => ?_)
  have : v ∈ addNew [] T.vars := (addNew_mem _ _ _).2 (.inr hv)
  simp [numAt, this]
end Go.Proofs.Ytafpbdmggnfdnaa
