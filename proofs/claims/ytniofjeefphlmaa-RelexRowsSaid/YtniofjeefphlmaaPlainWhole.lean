/- Plain: what stands between the tokens of a text is white and remarks. No program in sight. -/
import Derived.Test.YtniofjeefphlmaaPlain
namespace Go.Proofs.Ytniofjeefphlmaa
set_option linter.unusedVariables false

/-- The law's own look at what stands between two tokens, at depth d. -/
def gapL : Bs → Int → Bool
  | [], d => d == 0
  | [c], d => if d = 0 ∧ whiteB c.toNat = false then false else d == 0
  | c :: e :: r, d =>
    if opensL (c :: e :: r) then gapL r (d + 1)
    else if 0 < d ∧ closesL (c :: e :: r) = true then gapL r (d - 1)
    else if d = 0 ∧ whiteB c.toNat = false then false
    else gapL (e :: r) d

theorem white_not (c : UInt8) (h : whiteB c.toNat = true) : ¬ (c.toNat : Int) = 40 := by
  simp [whiteB] at h; omega
theorem gap_white (c : UInt8) (rest : Bs) (h : whiteB c.toNat = true) : gapL (c :: rest) 0 = gapL rest 0 := by
  rcases rest with _ | ⟨e, r⟩
  · simp [gapL, h]
  · have h1 := white_not c h
    simp [gapL, h, opensL, h1]
theorem gap_remark (l : Bs) (d : Int) (n0 : Nat) (rest : Bs) (hd : 0 < d ∨ (d = 0 ∧ opensL l = true)) (h : (remL l d n0).2 = true) :
    gapL (l.take ((remL l d n0).1 - n0) ++ rest) d = gapL rest 0 := by
  fun_induction remL l d n0 with
  | case1 => simp at h
  | case2 => simp at h
  | case3 a b r d n ho ih =>
    have hg := (remL_ge r (d + 1) (n + 2)).1
    have e : (remL r (d + 1) (n + 2)).1 - n = ((remL r (d + 1) (n + 2)).1 - (n + 2)) + 2 := by omega
    rw [e, List.take_succ_cons, List.take_succ_cons, List.cons_append, List.cons_append, gapL, if_pos (by simpa [opensL] using ho)]
    exact ih (by omega) h
  | case4 a b r d n ho hc hz =>
    have e : n + 2 - n = 2 := by omega
    simp only [e, List.take_succ_cons, List.take_zero, List.cons_append, List.nil_append]
    rcases hd with hd | ⟨_, hd⟩
    · rw [gapL, if_neg (by simpa [opensL] using ho), if_pos ⟨hd, by simpa [closesL] using hc⟩, hz]
    · exact absurd hd ho
  | case5 a b r d n ho hc hz ih =>
    have hg := (remL_ge r (d - 1) (n + 2)).1
    have e : (remL r (d - 1) (n + 2)).1 - n = ((remL r (d - 1) (n + 2)).1 - (n + 2)) + 2 := by omega
    rcases hd with hd | ⟨_, hd⟩
    · rw [e, List.take_succ_cons, List.take_succ_cons, List.cons_append, List.cons_append, gapL, if_neg (by simpa [opensL] using ho), if_pos ⟨hd, by simpa [closesL] using hc⟩]
      exact ih (.inl (by omega)) h
    · exact absurd hd ho
  | case6 a b r d n ho hc ih =>
    rcases hd with hd | ⟨_, hd⟩
    · have hg := (remL_ge (b :: r) d (n + 1)).1
      have hn : (remL (b :: r) d (n + 1)).1 ≠ n + 1 := by
        intro e
        have : ∀ (l : Bs) (d : Int) (m : Nat), (remL l d m).2 = true → (remL l d m).1 ≠ m := by
          intro l d m hh
          fun_induction remL l d m with
          | case1 => simp at hh
          | case2 => simp at hh
          | case3 a b r d m h1 ih1 => have := (remL_ge r (d + 1) (m + 2)).1; omega
          | case4 a b r d m h1 h2 h3 => simp only; omega
          | case5 a b r d m h1 h2 h3 ih1 => have := (remL_ge r (d - 1) (m + 2)).1; omega
          | case6 a b r d m h1 h2 ih1 => have := (remL_ge (b :: r) d (m + 1)).1; omega
        exact this _ _ _ h e
      have e : (remL (b :: r) d (n + 1)).1 - n = ((remL (b :: r) d (n + 1)).1 - (n + 1)) + 1 := by omega
      obtain ⟨q, hq⟩ : ∃ q, (remL (b :: r) d (n + 1)).1 - (n + 1) = q + 1 := ⟨(remL (b :: r) d (n + 1)).1 - (n + 1) - 1, by omega⟩
      have := ih (.inl hd) h
      rw [hq] at this
      rw [e, hq, List.take_succ_cons, List.take_succ_cons, List.cons_append, List.cons_append, gapL, if_neg (by simpa [opensL] using ho), if_neg (by simp [closesL] at hc ⊢; intro _; exact hc), if_neg (by omega)]
      rw [List.take_succ_cons, List.cons_append] at this
      exact this
    · exact absurd hd ho

/-- Tokens rise from the byte e on, none is empty, all lie within the text, and what stands between them and behind them passes the law's look. -/
def Whole (s : Bs) : Nat → List Tk → Prop
  | e, [] => e ≤ s.length ∧ gapL (s.drop e) 0 = true
  | e, t :: r => ∃ f' t' : Nat, t.2.1 = f' ∧ t.2.2 = t' ∧ e ≤ f' ∧ f' < t' ∧ t' ≤ s.length ∧ gapL ((s.drop e).take (f' - e)) 0 = true ∧ Whole s t' r

theorem whole_from (n : Nat) : ∀ (s : Bs) (e k : Nat), s.length - k ≤ n → e ≤ k → k ≤ s.length → (∀ rest, gapL ((s.drop e).take (k - e) ++ rest) 0 = gapL rest 0) → Whole s e (lx (s.drop k) k) := by
  induction n with
  | zero =>
    intro s e k hn he hk hg
    have h0 : s.drop k = [] := List.drop_of_length_le (by omega)
    rw [h0, lx_nil]
    refine ⟨by omega, ?_⟩
    have := hg []
    rw [List.append_nil, List.take_of_length_le (by rw [List.length_drop]; omega)] at this
    rw [this]; rfl
  | succ n ih =>
    intro s e k hn he hk hg
    by_cases hlt : k < s.length
    · have hdr := List.drop_eq_getElem_cons hlt
      cases hw : whiteB (s[k].toNat)
      · cases ho : opensL (s.drop k)
        · rw [hdr] at ho
          rw [hdr, lx_piece _ _ _ hw ho]
          have hp := pieceL_pos (s[k] :: s.drop (k + 1))
          have hl := pieceL_le s[k] (s.drop (k + 1))
          rw [← hdr, List.length_drop] at hl
          rw [← hdr] at hp ⊢
          refine ⟨k, k + (pieceL (s.drop k)).2, rfl, by simp, he, by omega, by omega, ?_, ?_⟩
          · have := hg []
            rw [List.append_nil] at this
            rw [this]; rfl
          · rw [List.drop_drop]
            exact ih s _ _ (by omega) (Nat.le_refl _) (by omega) (by intro rest; simp)
        · cases hr : (remL (s.drop k) 0 0).2
          · have hn' := remL_not (s.drop k) 0 0 hr
            rw [hdr] at ho hr
            rw [hdr, lx_open _ _ _ hw ho hr, ← hdr, hn']
            rw [List.length_drop]
            refine ⟨k, s.length, rfl, by simp only; omega, he, hlt, Nat.le_refl _, ?_, ?_⟩
            · have := hg []
              rw [List.append_nil] at this
              rw [this]; rfl
            · exact ⟨Nat.le_refl _, by simp [gapL]⟩
          · have hp := remL_pos (s.drop k) ho 0 0
            have hl := (remL_ge (s.drop k) 0 0).2
            rw [List.length_drop] at hl
            have hgr := fun rest => gap_remark (s.drop k) 0 0 rest (.inr ⟨rfl, ho⟩) hr
            rw [Nat.sub_zero] at hgr
            have hlx : lx (s.drop k) k = lx (s.drop (k + (remL (s.drop k) 0 0).1)) (k + (remL (s.drop k) 0 0).1) := by
              rw [← List.drop_drop]
              rw [hdr] at ho hr ⊢
              exact lx_remark _ _ _ hw ho hr
            rw [hlx]
            refine ih s e _ (by omega) (by omega) (by omega) (fun rest => ?_)
            have e2 : (s.drop e).take (k + (remL (s.drop k) 0 0).1 - e) = (s.drop e).take (k - e) ++ (s.drop k).take (remL (s.drop k) 0 0).1 := by
              rw [show k + (remL (s.drop k) 0 0).1 - e = (k - e) + (remL (s.drop k) 0 0).1 by omega, List.take_add, List.drop_drop, show e + (k - e) = k by omega]
            rw [e2, List.append_assoc, hg, hgr]
      · rw [hdr, lx_white _ _ _ hw]
        refine ih s e (k + 1) (by omega) (by omega) hlt (fun rest => ?_)
        have e2 : (s.drop e).take (k + 1 - e) = (s.drop e).take (k - e) ++ [s[k]] := by
          rw [show k + 1 - e = (k - e) + 1 by omega, List.take_add, List.drop_drop, show e + (k - e) = k by omega, hdr]
          rfl
        rw [e2, List.append_assoc, hg]
        exact gap_white _ _ hw
    · exact ih s e k (by omega) he hk hg
theorem whole_lx (s : Bs) : Whole s 0 (lx s 0) := by
  have := whole_from s.length s 0 0 (by omega) (Nat.le_refl _) (Nat.zero_le _) (by intro rest; simp)
  simpa using this
theorem whole_mem (s : Bs) : ∀ (xs : List Tk) (e : Nat), Whole s e xs → ∀ t ∈ xs, (e : Int) ≤ t.2.1 ∧ t.2.1 < t.2.2 ∧ t.2.2 ≤ s.length
  | [], _, _ => by simp
  | x :: xs, e, h => by
    obtain ⟨f, t, hf, ht, h1, h2, h3, _, h5⟩ := h
    intro u hu
    rcases List.mem_cons.1 hu with rfl | hu
    · rw [hf, ht]; omega
    · have := whole_mem s xs t h5 u hu; omega
theorem lx_mem (l : Bs) (t : Tk) (h : t ∈ lx l 0) : 0 ≤ t.2.1 ∧ t.2.1 < t.2.2 ∧ t.2.2 ≤ l.length := by
  have := whole_mem l _ 0 (whole_lx l) t h
  simpa using this
end Go.Proofs.Ytniofjeefphlmaa
