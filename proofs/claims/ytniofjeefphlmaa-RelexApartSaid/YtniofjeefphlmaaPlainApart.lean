/- Plain: spans rise, don't meet, and hold all tokens but the parting signs. No program in sight. -/
import Derived.Test.YtniofjeefphlmaaPlainSpans
namespace Go.Proofs.Ytniofjeefphlmaa
set_option linter.unusedVariables false

/-- What holds of the spans read so far, all tokens read so far ending at e at the latest. -/
structure SpInv (st : SpSt) (e : Int) : Prop where
  fine : ∀ p ∈ spOut st, 0 ≤ p.1 ∧ p.1 < p.2 ∧ p.2 ≤ e
  gap : (spOut st).Pairwise (fun a b => a.2 + 2 ≤ b.1)
  shut : st.opn = false → ∀ p ∈ spOut st, p.2 + 2 ≤ e
theorem SpInv.step {sep : Tk → Bool} {st : SpSt} {e : Int} {t : Tk} (h : SpInv st e) (h0 : 0 ≤ e) (h1 : e ≤ t.2.1) (h2 : t.2.1 < t.2.2) (hs : sep t = true → t.2.2 = t.2.1 + 2) : SpInv (spStep sep st t) t.2.2 := by
  obtain ⟨rows, ⟨r0, r1⟩, op⟩ := st
  obtain ⟨hf, hg, hsh⟩ := h
  cases hc : sep t
  · have e1 : spStep sep ⟨rows, (r0, r1), op⟩ t = ⟨rows, (if op then r0 else t.2.1, t.2.2), true⟩ := by unfold spStep; rw [if_neg (by simp [hc])]
    rw [e1]
    cases op
    · simp only [spOut, Bool.false_eq_true, if_false] at hf hg hsh
      have hsh' := hsh trivial
      refine ⟨?_, ?_, by intro h; cases h⟩
      · intro p hp
        simp only [spOut, if_true, Bool.false_eq_true, if_false] at hp
        rcases List.mem_append.1 hp with hp | hp
        · have := hf p hp; omega
        · simp at hp; subst hp; simp only; omega
      · simp only [spOut, if_true, Bool.false_eq_true, if_false]
        rw [List.pairwise_append]
        refine ⟨hg, by simp, ?_⟩
        intro a ha b hb
        simp at hb; subst hb
        have := hsh' a ha
        simp only; omega
    · simp only [spOut, if_true] at hf hg
      have hr := hf (r0, r1) (by simp)
      rw [List.pairwise_append] at hg
      refine ⟨?_, ?_, by intro h; cases h⟩
      · intro p hp
        simp only [spOut, if_true] at hp
        rcases List.mem_append.1 hp with hp | hp
        · have := hf p (List.mem_append_left _ hp); omega
        · simp at hp; subst hp; simp only at hr ⊢; omega
      · simp only [spOut, if_true]
        rw [List.pairwise_append]
        refine ⟨hg.1, by simp, ?_⟩
        intro a ha b hb
        simp at hb; subst hb
        exact hg.2.2 a ha (r0, r1) (by simp)
  · have e1 : spStep sep ⟨rows, (r0, r1), op⟩ t = ⟨if op then rows ++ [(r0, r1)] else rows, (r0, r1), false⟩ := by unfold spStep; rw [if_pos hc]
    have e2 : spOut (spStep sep ⟨rows, (r0, r1), op⟩ t) = spOut ⟨rows, (r0, r1), op⟩ := by rw [e1]; cases op <;> rfl
    have hl := hs hc
    refine ⟨?_, ?_, ?_⟩
    · rw [e2]; intro p hp; have := hf p hp; omega
    · rw [e2]; exact hg
    · rw [e2]; intro _ p hp; have := hf p hp; omega

theorem inv_at (s : Bs) (sep : Tk → Bool) : ∀ (xs : List Tk) (st : SpSt) (e : Nat), Whole s e xs → SpInv st e → (∀ t ∈ xs, sep t = true → t.2.2 = t.2.1 + 2) → ∀ i, i ≤ xs.length → ∃ e' : Nat, SpInv ((xs.take i).foldl (spStep sep) st) e' ∧ Whole s e' (xs.drop i) := by
  intro xs
  induction xs with
  | nil => intro st e h hi _ i hil; simp at hil; subst hil; exact ⟨e, hi, h⟩
  | cons x xs ih =>
    intro st e h hi hsep i hil
    rcases i with _ | i
    · exact ⟨e, hi, h⟩
    · obtain ⟨f', t', hf, ht, h1, h2, h3, _, h5⟩ := h
      have hstep := hi.step (sep := sep) (t := x) (by omega) (by omega) (by omega) (hsep x List.mem_cons_self)
      rw [ht] at hstep
      obtain ⟨e', he1, he2⟩ := ih (spStep sep st x) t' h5 hstep (fun t ht => hsep t (List.mem_cons_of_mem _ ht)) i (by simpa using hil)
      exact ⟨e', he1, he2⟩
/-- What becomes of the rows that were read. -/
theorem out_ahead (s : Bs) (sep : Tk → Bool) : ∀ (xs : List Tk) (st : SpSt) (e : Nat), Whole s e xs → (st.opn = true → st.row.2 ≤ e) →
    ∃ rest, (st.opn = false → spOut (xs.foldl (spStep sep) st) = st.rows ++ rest) ∧ (st.opn = true → ∃ q, st.row.2 ≤ q ∧ spOut (xs.foldl (spStep sep) st) = st.rows ++ (st.row.1, q) :: rest) := by
  intro xs
  induction xs with
  | nil =>
    intro st e _ _
    refine ⟨[], fun h => by simp [spOut, h], fun h => ⟨st.row.2, Int.le_refl _, by simp [spOut, h]⟩⟩
  | cons x xs ih =>
    intro st e h hr
    obtain ⟨f', t', hf, ht, h1, h2, h3, _, h5⟩ := h
    rw [List.foldl_cons]
    cases hc : sep x
    · have e1 : spStep sep st x = ⟨st.rows, (if st.opn then st.row.1 else x.2.1, x.2.2), true⟩ := by unfold spStep; rw [if_neg (by simp [hc])]
      obtain ⟨rest, _, hop⟩ := ih (spStep sep st x) t' h5 (by rw [e1]; intro _; simp only; omega)
      obtain ⟨q, hq, hout⟩ := hop (by rw [e1])
      rw [e1] at hq
      cases ho : st.opn
      · refine ⟨(x.2.1, q) :: rest, fun _ => by rw [hout, e1]; simp [ho], (fun h => by cases h)⟩
      · refine ⟨rest, (fun h => by cases h), fun _ => ⟨q, ?_, by rw [hout, e1]; simp [ho]⟩⟩
        have := hr ho
        simp only at hq; omega
    · have e1 : spStep sep st x = ⟨if st.opn then st.rows ++ [st.row] else st.rows, st.row, false⟩ := by unfold spStep; rw [if_pos hc]
      obtain ⟨rest, hcl, _⟩ := ih (spStep sep st x) t' h5 (by rw [e1]; intro h; cases h)
      have hout := hcl (by rw [e1])
      refine ⟨rest, fun h => by rw [hout, e1]; simp [h], fun h => ⟨st.row.2, Int.le_refl _, by rw [hout, e1]; simp [h]⟩⟩

/-- A token that is no parting sign lies within the span whose number is how many were shut before it; those have ended. -/
theorem span_of (s : Bs) (sep : Tk → Bool) (xs : List Tk) (hw : Whole s 0 xs) (hsep : ∀ t ∈ xs, sep t = true → t.2.2 = t.2.1 + 2) (i : Nat) (hi : i < xs.length) (hn : sep xs[i] = false) :
    ∃ p : Sp, (spans sep xs)[(spFold sep (xs.take i)).rows.length]? = some p ∧ p.1 ≤ xs[i].2.1 ∧ xs[i].2.2 ≤ p.2 ∧ ∀ k (hk : k < (spFold sep (xs.take i)).rows.length), ∃ q : Sp, (spans sep xs)[k]? = some q ∧ q.2 < xs[i].2.2 := by
  obtain ⟨e', hinv, hwd⟩ := inv_at s sep xs ⟨[], (0, 0), false⟩ 0 hw ⟨by simp [spOut], by simp [spOut], by simp [spOut]⟩ hsep i (by omega)
  rw [List.drop_eq_getElem_cons hi] at hwd
  have hwd0 := hwd
  obtain ⟨f', t', hf, ht, h1, h2, h3, _, h5⟩ := hwd
  have hfold : spans sep xs = spOut ((xs.drop (i + 1)).foldl (spStep sep) (spStep sep (spFold sep (xs.take i)) xs[i])) := by
    unfold spans spFold
    have e := List.take_append_drop (i + 1) xs
    rw [show List.foldl (spStep sep) ⟨[], (0, 0), false⟩ xs = List.foldl (spStep sep) ⟨[], (0, 0), false⟩ (xs.take (i + 1) ++ xs.drop (i + 1)) by rw [e], List.foldl_append, List.take_succ_eq_append_getElem hi, List.foldl_append]
    rfl
  change SpInv (spFold sep (xs.take i)) e' at hinv
  generalize spFold sep (xs.take i) = st at *
  obtain ⟨rows, ⟨r0, r1⟩, op⟩ := st
  have e1 : spStep sep ⟨rows, (r0, r1), op⟩ xs[i] = ⟨rows, (if op then r0 else xs[i].2.1, xs[i].2.2), true⟩ := by unfold spStep; rw [if_neg (by simp [hn])]
  rw [e1] at hfold
  obtain ⟨rest, _, hop⟩ := out_ahead s sep (xs.drop (i + 1)) ⟨rows, (if op then r0 else xs[i].2.1, xs[i].2.2), true⟩ t' h5 (by intro _; simp only; omega)
  obtain ⟨q, hq, hout⟩ := hop rfl
  rw [hout] at hfold
  simp only at hq hfold
  refine ⟨(if op then r0 else xs[i].2.1, q), ?_, ?_, hq, ?_⟩
  · rw [hfold]; simp
  · cases op
    · simp
    · have := hinv.fine (r0, r1) (by simp [spOut])
      simp only at this ⊢
      simp; omega
  · intro k hk
    simp only at hk
    refine ⟨rows[k], by rw [hfold, List.getElem?_append_left hk, List.getElem?_eq_getElem hk], ?_⟩
    have hm : rows[k] ∈ spOut ⟨rows, (r0, r1), op⟩ := by
      unfold spOut; cases op
      · exact List.getElem_mem hk
      · exact List.mem_append_left _ (List.getElem_mem hk)
    have := hinv.fine _ hm
    omega
theorem rows_grow (sep : Tk → Bool) (xs : List Tk) (i : Nat) (hi : i < xs.length) : (spFold sep (xs.take i)).rows.length ≤ (spFold sep (xs.take (i + 1))).rows.length := by
  rw [spFold_snoc sep xs i hi]
  unfold spStep
  split
  · cases (spFold sep (xs.take i)).opn <;> simp
  · simp
theorem spans_fine (s : Bs) (sep : Tk → Bool) (xs : List Tk) (hw : Whole s 0 xs) (hsep : ∀ t ∈ xs, sep t = true → t.2.2 = t.2.1 + 2) :
    (∀ p ∈ spans sep xs, 0 ≤ p.1 ∧ p.1 < p.2 ∧ p.2 ≤ s.length) ∧ (spans sep xs).Pairwise (fun a b => a.2 + 2 ≤ b.1) := by
  obtain ⟨e', hinv, hwd⟩ := inv_at s sep xs ⟨[], (0, 0), false⟩ 0 hw ⟨by simp [spOut], by simp [spOut], by simp [spOut]⟩ hsep xs.length (Nat.le_refl _)
  rw [List.take_length] at hinv
  rw [List.drop_of_length_le (Nat.le_refl _)] at hwd
  refine ⟨fun p hp => ?_, hinv.gap⟩
  have := hinv.fine p hp
  have := hwd.1
  omega
end Go.Proofs.Ytniofjeefphlmaa
