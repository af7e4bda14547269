/- Plain: a search for variables from the left, each class once. -/
import Derived.Test.YtafpbdmggnfdnaaPlainTree
import Derived.Test.YtafpbdmggnfdnaaPlainCycle
namespace Go.Proofs.Ytafpbdmggnfdnaa
set_option linter.unusedVariables false

/-- What is not there yet is put behind. -/
def addNew (acc vs : List Nat) : List Nat := vs.foldl (fun acc v => if v ∈ acc then acc else acc ++ [v]) acc
theorem addNew_append (acc a b : List Nat) : addNew acc (a ++ b) = addNew (addNew acc a) b := by unfold addNew; rw [List.foldl_append]
theorem addNew_old (acc vs : List Nat) (h : ∀ v ∈ vs, v ∈ acc) : addNew acc vs = acc := by
  unfold addNew
  induction vs with
  | nil => rfl
  | cons v vs ih => rw [List.foldl_cons, if_pos (h v List.mem_cons_self)]; exact ih (fun u hu => h u (List.mem_cons_of_mem _ hu))
theorem addNew_one (acc : List Nat) (v : Nat) (h : v ∉ acc) : addNew acc [v] = acc ++ [v] := by simp [addNew, h]
theorem addNew_prefix (acc vs : List Nat) : acc <+: addNew acc vs := by
  unfold addNew
  induction vs generalizing acc with
  | nil => exact List.prefix_refl _
  | cons v vs ih =>
    rw [List.foldl_cons]
    split
    · exact ih acc
    · exact (List.prefix_append acc [v]).trans (ih _)
theorem addNew_mem (acc vs : List Nat) (u : Nat) : u ∈ addNew acc vs ↔ u ∈ acc ∨ u ∈ vs := by
  unfold addNew
  induction vs generalizing acc with
  | nil => simp
  | cons v vs ih =>
    rw [List.foldl_cons, ih]
    split
    · rename_i hv
      simp only [List.mem_cons]
      constructor
      · rintro (h | h)
        · exact .inl h
        · exact .inr (.inr h)
      · rintro (h | rfl | h)
        · exact .inl h
        · exact .inl hv
        · exact .inr h
    · simp only [List.mem_append, List.mem_cons, List.mem_singleton]
      constructor
      · rintro ((h | h) | h)
        · exact .inl h
        · rcases h with h | h
          · exact .inr (.inl h)
          · cases h
        · exact .inr (.inr h)
      · rintro (h | h | h)
        · exact .inl (.inl h)
        · exact .inl (.inr (.inl h))
        · exact .inr h
theorem addNew_nodup (acc vs : List Nat) (h : acc.Nodup) : (addNew acc vs).Nodup := by
  unfold addNew
  induction vs generalizing acc with
  | nil => exact h
  | cons v vs ih =>
    rw [List.foldl_cons]
    split
    · exact ih acc h
    · rename_i hv
      refine ih _ ?_
      rw [List.nodup_append]
      refine ⟨h, by simp, ?_⟩
      intro a ha b hb
      simp at hb
      subst hb
      intro e; subst e; exact hv ha

/-- The variables within each node. -/
structure VarsOf (n : Nat) (c : Nat → Nat) (head : Nat → Option (List Nat)) (g : Nat → Nat) (tv : Nat → List Nat) : Prop where
  root : ∀ i, i < n → c i < n ∧ c (c i) = c i
  cls : ∀ i, i < n → tv (c i) = tv i
  var : ∀ r, r < n → c r = r → head r = none → tv r = [r]
  con : ∀ r as, r < n → c r = r → head r = some as → tv r = as.flatMap tv ∧ ∀ x ∈ as, x < n ∧ g (c x) < g r
structure VInv (n : Nat) (c g : Nat → Nat) (tv : Nat → List Nat) (seen : Nat → Nat) (acc stack Y : List Nat) : Prop where
  lt : ∀ x ∈ stack, x < n
  near : ∀ r, seen r ≠ 0 → r < n ∧ c r = r ∧ ∀ v ∈ tv r, v ∈ acc ∨ ∃ x ∈ stack.takeWhile (fun x => decide (g (c x) < g r)), v ∈ tv x
  old : ∀ v ∈ acc, seen v ≠ 0
  total : addNew acc (stack.flatMap tv) = Y
section
variable {n : Nat} {c g : Nat → Nat} {head : Nat → Option (List Nat)} {tv : Nat → List Nat} {seen : Nat → Nat} {acc Y : List Nat}
theorem VInv.skip {x : Nat} {rest : List Nat} (V : VarsOf n c head g tv) (h : VInv n c g tv seen acc (x :: rest) Y) (hs : seen (c x) ≠ 0) : VInv n c g tv seen acc rest Y := by
  have hx := h.lt x List.mem_cons_self
  have hdone : ∀ v ∈ tv x, v ∈ acc := by
    intro v hv
    obtain ⟨_, _, h3⟩ := h.near (c x) hs
    rcases h3 v (by rw [V.cls x hx]; exact hv) with h4 | ⟨y, hy, _⟩
    · exact h4
    · rw [List.takeWhile_cons, if_neg (by simp)] at hy; simp at hy
  refine ⟨fun y hy => h.lt y (List.mem_cons_of_mem _ hy), fun r hr => ?_, h.old, ?_⟩
  · obtain ⟨h1, h2, h3⟩ := h.near r hr
    refine ⟨h1, h2, fun v hv => ?_⟩
    rcases h3 v hv with h4 | ⟨y, hy, hvy⟩
    · exact .inl h4
    · rw [List.takeWhile_cons] at hy
      split at hy
      · rcases List.mem_cons.1 hy with rfl | hy
        · exact .inl (hdone v hvy)
        · exact .inr ⟨y, hy, hvy⟩
      · simp at hy
  · rw [← h.total, List.flatMap_cons, addNew_append, addNew_old acc _ hdone]
theorem VInv.var {x : Nat} {rest : List Nat} (V : VarsOf n c head g tv) (h : VInv n c g tv seen acc (x :: rest) Y) (hs : seen (c x) = 0) (hh : head (c x) = none) : VInv n c g tv (updN seen (c x) 1) (acc ++ [c x]) rest Y ∧ acc ++ [c x] <+: Y := by
  have hx := h.lt x List.mem_cons_self
  have hr := V.root x hx
  have htv : tv x = [c x] := by rw [← V.cls x hx]; exact V.var (c x) hr.1 hr.2 hh
  have hnot : c x ∉ acc := fun hm => h.old _ hm hs
  have htot : addNew (acc ++ [c x]) (rest.flatMap tv) = Y := by
    rw [← h.total, List.flatMap_cons, addNew_append, htv, addNew_one acc _ hnot]
  refine ⟨⟨fun y hy => h.lt y (List.mem_cons_of_mem _ hy), fun r hsr => ?_, fun v hv => ?_, htot⟩, by rw [← htot]; exact addNew_prefix _ _⟩
  · by_cases e : r = c x
    · subst e
      refine ⟨hr.1, hr.2, fun v hv => .inl ?_⟩
      rw [V.cls x hx, htv] at hv
      exact List.mem_append_right _ hv
    · rw [updN_other _ _ _ _ e] at hsr
      obtain ⟨h1, h2, h3⟩ := h.near r hsr
      refine ⟨h1, h2, fun v hv => ?_⟩
      rcases h3 v hv with h4 | ⟨y, hy, hvy⟩
      · exact .inl (List.mem_append_left _ h4)
      · rw [List.takeWhile_cons] at hy
        split at hy
        · rcases List.mem_cons.1 hy with rfl | hy
          · rw [htv] at hvy; exact .inl (List.mem_append_right _ hvy)
          · exact .inr ⟨y, hy, hvy⟩
        · simp at hy
  · rcases List.mem_append.1 hv with hv | hv
    · have := h.old v hv
      rw [updN_other _ _ _ _ (fun e => by rw [e] at this; exact this hs)]; exact this
    · simp at hv; subst hv; rw [updN_same]; decide
theorem takeWhile_all (p : Nat → Bool) (a b : List Nat) (h : ∀ x ∈ a, p x = true) : (a ++ b).takeWhile p = a ++ b.takeWhile p := by
  induction a with
  | nil => rfl
  | cons x a ih => rw [List.cons_append, List.takeWhile_cons, if_pos (h x List.mem_cons_self), ih (fun y hy => h y (List.mem_cons_of_mem _ hy)), List.cons_append]
theorem VInv.con {x : Nat} {rest as : List Nat} (V : VarsOf n c head g tv) (h : VInv n c g tv seen acc (x :: rest) Y) (hs : seen (c x) = 0) (hh : head (c x) = some as) : VInv n c g tv (updN seen (c x) 1) acc (as ++ rest) Y := by
  have hx := h.lt x List.mem_cons_self
  have hr := V.root x hx
  obtain ⟨htc, hfall⟩ := V.con (c x) as hr.1 hr.2 hh
  have htv : tv x = as.flatMap tv := by rw [← V.cls x hx]; exact htc
  refine ⟨fun y hy => ?_, fun r hsr => ?_, fun v hv => ?_, ?_⟩
  · rcases List.mem_append.1 hy with hy | hy
    · exact (hfall y hy).1
    · exact h.lt y (List.mem_cons_of_mem _ hy)
  · by_cases e : r = c x
    · subst e
      refine ⟨hr.1, hr.2, fun v hv => .inr ?_⟩
      rw [htc] at hv
      obtain ⟨y, hy, hvy⟩ := List.mem_flatMap.1 hv
      refine ⟨y, ?_, hvy⟩
      rw [takeWhile_all _ _ _ (fun z hz => decide_eq_true (hfall z hz).2)]
      exact List.mem_append_left _ hy
    · rw [updN_other _ _ _ _ e] at hsr
      obtain ⟨h1, h2, h3⟩ := h.near r hsr
      refine ⟨h1, h2, fun v hv => ?_⟩
      rcases h3 v hv with h4 | ⟨y, hy, hvy⟩
      · exact .inl h4
      · rw [List.takeWhile_cons] at hy
        split at hy
        · rename_i hg
          have hg' : g (c x) < g r := of_decide_eq_true hg
          have hall : ∀ z ∈ as, decide (g (c z) < g r) = true := fun z hz => decide_eq_true (Nat.lt_trans (hfall z hz).2 hg')
          refine .inr ?_
          rw [takeWhile_all _ _ _ hall]
          rcases List.mem_cons.1 hy with rfl | hy
          · rw [htv] at hvy
            obtain ⟨z, hz, hvz⟩ := List.mem_flatMap.1 hvy
            exact ⟨z, List.mem_append_left _ hz, hvz⟩
          · exact ⟨y, List.mem_append_right _ hy, hvy⟩
        · simp at hy
  · have := h.old v hv
    rw [updN_other _ _ _ _ (fun e => by rw [e] at this; exact this hs)]; exact this
  · rw [← h.total, List.flatMap_cons, List.flatMap_append, htv]
/-- The next node is begun. -/
theorem VInv.next {x : Nat} (h : VInv n c g tv seen acc [] acc) (hx : x < n) : VInv n c g tv seen acc [x] (addNew acc (tv x)) :=
  ⟨by simpa using hx, fun r hr => by
    obtain ⟨h1, h2, h3⟩ := h.near r hr
    exact ⟨h1, h2, fun v hv => (h3 v hv).imp id (fun ⟨y, hy, _⟩ => by simp at hy)⟩, h.old, by simp⟩
theorem VInv.done (h : VInv n c g tv seen acc [] Y) : Y = acc := by have := h.total; simpa [addNew] using this.symm
theorem VInv.start : VInv n c g tv (fun _ => 0) [] [] [] := ⟨by simp, fun r hr => absurd rfl hr, by simp, rfl⟩
end
end Go.Proofs.Ytafpbdmggnfdnaa
