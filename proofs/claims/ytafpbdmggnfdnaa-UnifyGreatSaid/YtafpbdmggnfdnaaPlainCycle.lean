/- Plain: a search for a node that stands within itself. -/
import Derived.Test.YtafpbdmggnfdnaaPlainForest
namespace Go.Proofs.Ytafpbdmggnfdnaa
set_option linter.unusedVariables false

def updN (f : Nat → Nat) (j x : Nat) : Nat → Nat := fun k => if k = j then x else f k
theorem updN_same (f : Nat → Nat) (j x : Nat) : updN f j x j = x := by simp [updN]
theorem updN_other (f : Nat → Nat) (j x k : Nat) (h : k ≠ j) : updN f j x k = f k := by simp [updN, h]
/-- How many of the first n are 0. -/
def zeros (f : Nat → Nat) : Nat → Nat
  | 0 => 0
  | n + 1 => zeros f n + if f n = 0 then 1 else 0
theorem zeros_congr (p q : Nat → Nat) (n : Nat) (h : ∀ i, i < n → (p i = 0 ↔ q i = 0)) : zeros p n = zeros q n := by
  induction n with
  | zero => rfl
  | succ n ih =>
    unfold zeros
    rw [ih (fun i hi => h i (by omega))]
    have := h n (by omega)
    by_cases e : p n = 0
    · rw [if_pos e, if_pos (this.1 e)]
    · rw [if_neg e, if_neg (fun e' => e (this.2 e'))]
theorem zeros_set (f : Nat → Nat) (x v n : Nat) (hx : x < n) (h0 : f x = 0) (hv : v ≠ 0) : zeros (updN f x v) n + 1 = zeros f n := by
  induction n with
  | zero => omega
  | succ n ih =>
    unfold zeros
    by_cases e : n = x
    · subst e
      rw [updN_same, if_neg hv, if_pos h0, zeros_congr _ f n (fun i hi => by rw [updN_other _ _ _ _ (by omega)])]
    · rw [updN_other _ _ _ _ e]
      have := ih (by omega)
      omega
theorem zeros_le (f : Nat → Nat) (n : Nat) : zeros f n ≤ n := by
  induction n with
  | zero => simp [zeros]
  | succ n ih => unfold zeros; split <;> omega

/-- A node that is open: it is a root; k of its arguments have been looked at. -/
structure Opened (n : Nat) (c : Nat → Nat) (A : Nat → List Nat) (st : Nat → Nat) (m k : Nat) : Prop where
  st : st m = 1
  lt : m < n
  root : c m = m
  le : k ≤ (A m).length
/-- The way down to a child. -/
def ChainTo (n : Nat) (c : Nat → Nat) (A : Nat → List Nat) (st : Nat → Nat) : Nat → List (Nat × Nat) → Prop
  | _, [] => True
  | child, (m, k) :: rest => Opened n c A st m k ∧ 0 < k ∧ (∃ x, (A m)[k - 1]? = some x ∧ c x = child) ∧ (∀ (j x : Nat), j + 1 < k → (A m)[j]? = some x → st (c x) = 2) ∧ ChainTo n c A st m rest
def WayOk (n : Nat) (c : Nat → Nat) (A : Nat → List Nat) (st : Nat → Nat) : List (Nat × Nat) → Prop
  | [] => True
  | (m, k) :: rest => Opened n c A st m k ∧ (∀ (j x : Nat), j < k → (A m)[j]? = some x → st (c x) = 2) ∧ ChainTo n c A st m rest
structure CInv (n : Nat) (c : Nat → Nat) (A : Nat → List Nat) (a : Nat) (st : Nat → Nat) (way : List (Nat × Nat)) (fin : Nat → Nat) (t : Nat) : Prop where
  ok : WayOk n c A st way
  nodup : (way.map (·.1)).Nodup
  opened : ∀ m, st m = 1 → m ∈ way.map (·.1)
  small : ∀ m, st m ≤ 2
  fine : ∀ m, st m = 2 → m < n ∧ (∀ x ∈ A m, st (c x) = 2 ∧ fin (c x) < fin m) ∧ fin m < t
  begun : st (c a) ≠ 0

section
variable {n : Nat} {c : Nat → Nat} {A : Nat → List Nat} {st : Nat → Nat}
theorem ChainTo.mono {st' : Nat → Nat} (way : List (Nat × Nat)) : ∀ {child : Nat}, ChainTo n c A st child way → (∀ m ∈ way.map (·.1), st m = 1 → st' m = 1) → (∀ y, st y = 2 → st' y = 2) → ChainTo n c A st' child way := by
  induction way with
  | nil => intros; trivial
  | cons x way ih =>
    obtain ⟨m, k⟩ := x
    rintro child ⟨h1, h2, h3, h4, h5⟩ hm hd
    exact ⟨⟨hm m (by simp) h1.st, h1.lt, h1.root, h1.le⟩, h2, h3, fun j x hj hx => hd _ (h4 j x hj hx), ih h5 (fun m' hm' => hm m' (by simp at hm' ⊢; exact .inr hm')) hd⟩
/-- Down the way every measure falls. -/
theorem ChainTo.falls (h : Nat → Nat) (hh : ∀ m, m < n → c m = m → ∀ x ∈ A m, h (c x) < h m) (way : List (Nat × Nat)) : ∀ {child : Nat}, ChainTo n c A st child way → ∀ m ∈ way.map (·.1), h child < h m := by
  induction way with
  | nil => intro _ _ m hm; simp at hm
  | cons x way ih =>
    obtain ⟨m, k⟩ := x
    rintro child ⟨h1, h2, ⟨x, hx, hc⟩, h4, h5⟩ m' hm'
    have hlt := hh m h1.lt h1.root x (List.mem_of_getElem? hx)
    rw [hc] at hlt
    simp at hm'
    rcases hm' with rfl | hm'
    · exact hlt
    · have := ih h5 m' (by simpa using hm')
      omega

variable {a : Nat} {fin : Nat → Nat} {t : Nat}
theorem CInv.start (ha : a < n) (hc : ∀ i, i < n → c i < n ∧ c (c i) = c i) : CInv n c A a (updN (fun _ => 0) (c a) 1) [(c a, 0)] (fun _ => 0) 0 := by
  refine ⟨⟨⟨updN_same _ _ _, (hc a ha).1, (hc a ha).2, by omega⟩, by intro j x hj; omega, trivial⟩, by simp, fun m hm => ?_, fun m => ?_, fun m hm => ?_, by rw [updN_same]; decide⟩
  · by_cases e : m = c a
    · simp [e]
    · rw [updN_other _ _ _ _ e] at hm; cases hm
  · unfold updN
    split
    · decide
    · exact Nat.zero_le _
  · unfold updN at hm
    split at hm
    · cases hm
    · cases hm
theorem CInv.skip {m k x : Nat} {rest : List (Nat × Nat)} (h : CInv n c A a st ((m, k) :: rest) fin t) (hx : (A m)[k]? = some x) (hd : st (c x) = 2) : CInv n c A a st ((m, k + 1) :: rest) fin t := by
  obtain ⟨h1, h2, h3⟩ := h.ok
  refine ⟨⟨⟨h1.st, h1.lt, h1.root, (List.getElem?_eq_some_iff.1 hx).1⟩, fun j y hj hy => ?_, h3⟩, h.nodup, h.opened, h.small, h.fine, h.begun⟩
  by_cases e : j = k
  · subst e; rw [hx] at hy; injection hy with hy; subst hy; exact hd
  · exact h2 j y (by omega) hy
theorem CInv.push {m k x : Nat} {rest : List (Nat × Nat)} (h : CInv n c A a st ((m, k) :: rest) fin t) (hx : (A m)[k]? = some x) (hd : st (c x) = 0) (hcx : c x < n ∧ c (c x) = c x) : CInv n c A a (updN st (c x) 1) ((c x, 0) :: (m, k + 1) :: rest) fin t := by
  obtain ⟨h1, h2, h3⟩ := h.ok
  have hne : ∀ y, st y ≠ 0 → y ≠ c x := fun y hy e => hy (by rw [e]; exact hd)
  have hkeep : ∀ y, st y = 2 → updN st (c x) 1 y = 2 := fun y hy => by rw [updN_other _ _ _ _ (hne y (by omega))]; exact hy
  have hkeep1 : ∀ y, st y = 1 → updN st (c x) 1 y = 1 := fun y hy => by rw [updN_other _ _ _ _ (hne y (by omega))]; exact hy
  have hopen := h1.st
  have hnot : ∀ y ∈ ((m, k) :: rest).map (·.1), y ≠ c x := by
    intro y hy e
    have key : ∀ (way : List (Nat × Nat)) (child : Nat), ChainTo n c A st child way → ∀ y ∈ way.map (·.1), st y = 1 := by
      intro way
      induction way with
      | nil => intro _ _ y hy; simp at hy
      | cons z way ih =>
        obtain ⟨m', k'⟩ := z
        rintro child ⟨g1, _, _, _, g5⟩ y hy
        simp at hy
        rcases hy with rfl | hy
        · exact g1.st
        · exact ih _ g5 y (by simpa using hy)
    have : st y = 1 := by
      simp at hy
      rcases hy with rfl | hy
      · exact hopen
      · exact key rest m h3 y (by simpa using hy)
    rw [e, hd] at this; omega
  refine ⟨⟨⟨updN_same _ _ _, hcx.1, hcx.2, by omega⟩, by intro j y hj; omega, ⟨hkeep1 m hopen, h1.lt, h1.root, (List.getElem?_eq_some_iff.1 hx).1⟩, by omega, ⟨x, by simpa using hx, rfl⟩, fun j y hj hy => hkeep _ (h2 j y (by omega) hy), h3.mono rest (fun y _ hy => hkeep1 y hy) hkeep⟩, ?_, fun y hy => ?_, fun y => ?_, fun y hy => ?_, ?_⟩
  · have := h.nodup
    simp only [List.map_cons, List.nodup_cons] at this ⊢
    refine ⟨?_, this⟩
    intro hmem
    exact hnot (c x) (by simpa using hmem) rfl
  · by_cases e : y = c x
    · subst e; simp
    · rw [updN_other _ _ _ _ e] at hy
      have := h.opened y hy
      simp only [List.map_cons] at this ⊢
      exact List.mem_cons_of_mem _ this
  · unfold updN; split
    · omega
    · exact h.small y
  · by_cases e : y = c x
    · subst e; rw [updN_same] at hy; omega
    · rw [updN_other _ _ _ _ e] at hy
      obtain ⟨f1, f2, f3⟩ := h.fine y hy
      exact ⟨f1, fun z hz => ⟨hkeep _ (f2 z hz).1, (f2 z hz).2⟩, f3⟩
  · by_cases e : c a = c x
    · rw [e, updN_same]; decide
    · rw [updN_other _ _ _ _ e]; exact h.begun
theorem CInv.pop {m k : Nat} {rest : List (Nat × Nat)} (h : CInv n c A a st ((m, k) :: rest) fin t) (hk : k = (A m).length) : CInv n c A a (updN st m 2) rest (updN fin m t) (t + 1) := by
  obtain ⟨h1, h2, h3⟩ := h.ok
  have hnd := h.nodup
  simp only [List.map_cons, List.nodup_cons] at hnd
  have hkeep : ∀ y, st y = 2 → updN st m 2 y = 2 := fun y hy => by unfold updN; split; rfl; exact hy
  have hrest1 : ∀ y ∈ rest.map (·.1), st y = 1 → updN st m 2 y = 1 := fun y hy h1' => by rw [updN_other _ _ _ _ (by rintro rfl; exact hnd.1 hy)]; exact h1'
  have hfinal : ∀ x ∈ A m, st (c x) = 2 := by
    intro x hx
    obtain ⟨j, hj, hx'⟩ := List.mem_iff_getElem?.1 hx |>.elim fun j hj => (⟨j, (List.getElem?_eq_some_iff.1 hj).1, hj⟩ : ∃ j, j < (A m).length ∧ (A m)[j]? = some x)
    exact h2 j x (by omega) hx'
  refine ⟨?_, hnd.2, fun y hy => ?_, fun y => ?_, fun y hy => ?_, ?_⟩
  · rcases rest with _ | ⟨⟨m1, k1⟩, r⟩
    · trivial
    · obtain ⟨g1, g2, ⟨x, hx, hc⟩, g4, g5⟩ := h3
      refine ⟨⟨hrest1 m1 (by simp) g1.st, g1.lt, g1.root, g1.le⟩, fun j y hj hy => ?_, g5.mono r (fun y hy => hrest1 y (by simp at hy ⊢; exact .inr hy)) hkeep⟩
      by_cases e : j + 1 = k1
      · subst e
        simp at hx
        rw [hx] at hy; injection hy with hy; subst hy
        rw [hc, updN_same]
      · exact hkeep _ (g4 j y (by omega) hy)
  · by_cases e : y = m
    · subst e; rw [updN_same] at hy; omega
    · rw [updN_other _ _ _ _ e] at hy
      have := h.opened y hy
      simp only [List.map_cons, List.mem_cons] at this
      exact this.resolve_left e
  · unfold updN; split
    · omega
    · exact h.small y
  · by_cases e : y = m
    · subst e
      refine ⟨h1.lt, fun x hx => ⟨hkeep _ (hfinal x hx), ?_⟩, by rw [updN_same]; omega⟩
      have h2' := hfinal x hx
      have hne : c x ≠ y := fun e => by rw [e, h1.st] at h2'; omega
      rw [updN_same, updN_other _ _ _ _ hne]
      exact (h.fine _ h2').2.2
    · rw [updN_other _ _ _ _ e] at hy
      obtain ⟨f1, f2, f3⟩ := h.fine y hy
      refine ⟨f1, fun x hx => ⟨hkeep _ (f2 x hx).1, ?_⟩, by rw [updN_other _ _ _ _ e]; omega⟩
      have hne : c x ≠ m := fun e' => by have := (f2 x hx).1; rw [e', h1.st] at this; omega
      rw [updN_other _ _ _ _ hne, updN_other _ _ _ _ e]; exact (f2 x hx).2
  · by_cases e : c a = m
    · rw [e, updN_same]; decide
    · rw [updN_other _ _ _ _ e]; exact h.begun
/-- An argument that is open: there is a cycle. -/
theorem CInv.cycle {m k x : Nat} {rest : List (Nat × Nat)} (h : CInv n c A a st ((m, k) :: rest) fin t) (hx : (A m)[k]? = some x) (hd : st (c x) = 1) (g : Nat → Nat) (hg : ∀ m, m < n → c m = m → ∀ x ∈ A m, g (c x) < g m) : False := by
  obtain ⟨h1, h2, h3⟩ := h.ok
  have hlt := hg m h1.lt h1.root x (List.mem_of_getElem? hx)
  have hm := h.opened _ hd
  simp only [List.map_cons, List.mem_cons] at hm
  rcases hm with e | hm
  · rw [e] at hlt; omega
  · have := h3.falls g hg rest _ hm
    omega
end

/-- What a search without a find tells. -/
structure Searched (N : List Nd) (c : Nat → Nat) (A : Nat → List Nat) (a : Nat) (st fin : Nat → Nat) (t : Nat) : Prop where
  fine : ∀ m, st m = 2 → m < N.length ∧ (∀ x ∈ A m, st (c x) = 2 ∧ fin (c x) < fin m) ∧ fin m < t
  at_ : st (c a) = 2
theorem CInv.searched {N : List Nd} {c : Nat → Nat} {A : Nat → List Nat} {a : Nat} {st fin : Nat → Nat} {t : Nat} (h : CInv N.length c A a st [] fin t) : Searched N c A a st fin t := by
  refine ⟨h.fine, ?_⟩
  have h1 := h.small (c a)
  have h2 := h.begun
  have h3 : st (c a) ≠ 1 := fun e => by have := h.opened _ e; simp at this
  omega
/-- A class's form has the arguments of all its nodes. -/
theorem Searched.acyc {N : List Nd} {c0 c : Nat → Nat} {A F : Nat → Nat} {As : Nat → List Nat} {a b : Nat} {st fin : Nat → Nat} {t : Nat} (h : Searched N c As a st fin t) (hw : Wf N) (h0 : Acyc N c0) (hm : MInv N c0 a b c []) (ha : a < N.length) (hb : b < N.length)
    (hF : ∀ i, i < N.length → Form N c (c i) (F (c i))) (hA : ∀ i p, i < N.length → N[F (c i)]? = some p → As (c i) = p.args) : Acyc N c := by
  have hl := hm.done
  have key : ∀ (i : Nat) (p : Nd), N[i]? = some p → st (c i) = 2 → ∀ x ∈ p.args, st (c x) = 2 ∧ fin (c x) < fin (c i) := by
    intro i p hp hi x hx
    have hil := (List.getElem?_eq_some_iff.1 hp).1
    have Fi := hF i hil
    obtain ⟨q, hq⟩ : ∃ q, N[F (c i)]? = some q := ⟨_, List.getElem?_eq_getElem Fi.lt⟩
    have hpk : p.kind ≠ 1 := fun e => by rw [(hw i p hp).2 e] at hx; simp at hx
    have hqk := Fi.head i p q hp rfl hpk hq
    obtain ⟨e1, e2⟩ := hl.good.closed i (F (c i)) p q hp hq Fi.cls.symm hpk hqk
    obtain ⟨j, hj⟩ := List.mem_iff_getElem?.1 hx
    have hjl := (List.getElem?_eq_some_iff.1 hj).1
    have hy : q.args[j]? = some (q.args[j]'(by have := e1.2.2; omega)) := List.getElem?_eq_getElem _
    have hc := e2 j x _ hj hy
    have := (h.fine _ hi).2.1 _ (by rw [hA i q hil hq]; exact List.mem_of_getElem? hy)
    rwa [← hc] at this
  have hab : c a = c b := hl.good.ab
  refine acyc_after hw h0 hm (fun i => st (c i) = 2) ⟨fun i j _ _ e hi => by show st (c j) = 2; rw [← e]; exact hi, fun i p hp hi x hx => (key i p hp hi x hx).1⟩ h.at_ (by show st (c b) = 2; rw [← hab]; exact h.at_)
    (fun i => if st (c i) = 2 then fin (c i) else 0) (t + 1) (fun i j _ _ e => by simp only [e]) (fun i => ?_) (fun i p hp hi x hx => ?_)
  · show (if st (c i) = 2 then fin (c i) else 0) < t + 1
    split
    · rename_i e; have := (h.fine _ e).2.2; omega
    · omega
  · obtain ⟨k1, k2⟩ := key i p hp hi x hx
    show (if st (c x) = 2 then fin (c x) else 0) < (if st (c i) = 2 then fin (c i) else 0)
    rw [if_pos k1, if_pos hi]; exact k2
theorem Acyc.measure {N : List Nd} {c F : Nat → Nat} {As : Nat → List Nat} (h : Acyc N c) (hw : Wf N) (hF : ∀ i, i < N.length → Form N c (c i) (F (c i))) (hA : ∀ i p, i < N.length → N[F (c i)]? = some p → As (c i) = p.args) (hc : ∀ i, i < N.length → c i < N.length ∧ c (c i) = c i) :
    ∃ g : Nat → Nat, ∀ m, m < N.length → c m = m → ∀ x ∈ As m, g (c x) < g m := by
  obtain ⟨g, g1, g2⟩ := h
  refine ⟨g, fun m hm cm x hx => ?_⟩
  have Fm := hF m hm
  rw [cm] at Fm
  obtain ⟨q, hq⟩ : ∃ q, N[F m]? = some q := ⟨_, List.getElem?_eq_getElem Fm.lt⟩
  have hAm := hA m q hm (by rw [cm]; exact hq)
  rw [cm] at hAm
  rw [hAm] at hx
  have hxl : x < N.length := by
    have := (hw _ q hq).1 x hx
    have := Fm.lt; omega
  have e1 := g1 (c x) x (hc x hxl).1 hxl (hc x hxl).2
  have e2 := g1 (F m) m Fm.lt hm (Fm.cls.trans cm.symm)
  have := g2 (F m) q hq x hx
  omega
end Go.Proofs.Ytafpbdmggnfdnaa
