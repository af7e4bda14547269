/- Plain: what a token is hangs on two bytes behind it at most: texts that begin alike have the same tokens at the front. No program in sight. -/
import Derived.Test.YtniofjeefphlmaaPlainRelex
namespace Go.Proofs.Ytniofjeefphlmaa
set_option linter.unusedVariables false

theorem nm_start (c : UInt8) (h : (smallB c.toNat || (c.toNat : Int) == 95) = true ∨ greatB c.toNat = true) : nm true c = true := by
  unfold nm nameB
  rcases h with h | h
  · revert h; cases smallB c.toNat <;> simp
    intro h; simp [h]
  · simp [h]
theorem lexL_lt (n : Nat) : ∀ (l : Bs) (p : Nat), l.length ≤ n → ∀ t ∈ lexL n l p, (p : Int) ≤ t.2.1 ∧ t.2.1 < t.2.2 := by
  induction n with
  | zero => intro l p _ t ht; simp [lexL] at ht
  | succ n ih =>
    intro l p hn t ht
    rcases l with _ | ⟨c, r⟩
    · simp [lexL] at ht
    · simp only [List.length_cons] at hn
      unfold lexL at ht
      split at ht
      · have := ih _ _ (by omega) t ht; omega
      · split at ht
        · rename_i ho
          have hp := remL_pos (c :: r) ho 0 0
          split at ht
          · have := ih _ _ (by simp only [List.length_drop, List.length_cons]; omega) t ht; omega
          · simp at ht; rw [ht]; simp only; omega
        · have hp := pieceL_pos (c :: r)
          rcases List.mem_cons.1 ht with rfl | ht
          · simp only; omega
          · have := ih _ _ (by simp only [List.length_drop, List.length_cons]; omega) t ht; omega
theorem lx_lt (l : Bs) (p : Nat) (t : Tk) (h : t ∈ lx l p) : (p : Int) ≤ t.2.1 ∧ t.2.1 < t.2.2 := lexL_lt _ l p (Nat.le_refl _) t h
theorem front_none (f : Int) (L : List Tk) (h : ∀ t ∈ L, f - 1 ≤ t.2.2) : L.takeWhile (isFront f) = [] := by
  rcases L with _ | ⟨x, L⟩
  · rfl
  · have := h x List.mem_cons_self
    rw [List.takeWhile_cons, if_neg (by simp [isFront]; omega)]
theorem late_none (f : Nat) (l : Bs) (k : Nat) (h : f ≤ k + 2) : (lx l k).takeWhile (isFront f) = [] := by
  refine front_none f _ (fun t ht => ?_)
  have := lx_lt l k t ht
  omega

theorem takeWhile_in (g : UInt8 → Bool) (p r : Bs) (h : ((p ++ r).takeWhile g).length < p.length) : ∀ r', (p ++ r').takeWhile g = (p ++ r).takeWhile g := by
  induction p with
  | nil => simp at h
  | cons c p ih =>
    intro r'
    simp only [List.cons_append, List.takeWhile_cons] at h ⊢
    split
    · rename_i hc
      rw [if_pos hc] at h
      rw [ih (by simpa using h)]
    · rfl
theorem runL_in (t : Bool) (p r r' : Bs) (h : runL t (p ++ r) < p.length) : runL t (p ++ r') = runL t (p ++ r) := by
  unfold runL at *; rw [takeWhile_in _ p r h r']
theorem digL_in (p r r' : Bs) (h : digL (p ++ r) < p.length) : digL (p ++ r') = digL (p ++ r) := by
  unfold digL at *; rw [takeWhile_in _ p r h r']
/-- A token that ends within what two texts share, a byte ahead of its end, is a token of both. -/
theorem tokenL_in (p r r' : Bs) (h : (tokenL (p ++ r)).2 + 1 < p.length) : tokenL (p ++ r') = tokenL (p ++ r) := by
  rcases p with _ | ⟨c, _ | ⟨d, p⟩⟩
  · simp at h
  · simp at h
  · simp only [List.cons_append, List.length_cons] at h ⊢
    simp only [tokenL] at h ⊢
    by_cases h1 : (smallB c.toNat || (c.toNat : Int) == 95) = true
    · simp only [if_pos h1] at h ⊢
      have e := runL_in true (c :: d :: p) r r' (by simp only [List.cons_append, List.length_cons]; omega)
      simp only [List.cons_append] at e
      rw [e]
      have hl : runL true (c :: d :: (p ++ r)) ≤ (c :: d :: p).length := by simp only [List.length_cons]; omega
      rw [← List.cons_append, ← List.cons_append, List.take_append_of_le_length (by simpa using hl), ← List.cons_append, ← List.cons_append, List.take_append_of_le_length (by simpa using hl)]
    · simp only [if_neg h1] at h ⊢
      by_cases h2 : greatB c.toNat = true
      · simp only [if_pos h2] at h ⊢
        have e := runL_in true (c :: d :: p) r r' (by simp only [List.cons_append, List.length_cons]; omega)
        simp only [List.cons_append] at e
        rw [e]
      · simp only [if_neg h2] at h ⊢
        by_cases h3 : digitB c.toNat = true
        · simp only [if_pos h3] at h ⊢
          have e := digL_in (d :: p) r r' (by simp only [List.cons_append, List.length_cons]; omega)
          simp only [List.cons_append] at e
          rw [e]
        · simp only [if_neg h3] at h ⊢
          by_cases h4 : ((c.toNat : Int) == 39) = true
          · simp only [if_pos h4] at h ⊢
            by_cases h5 : smallB d.toNat = true
            · simp only [if_pos h5] at h ⊢
              have e := runL_in false (d :: p) r r' (by simp only [List.cons_append, List.length_cons]; omega)
              simp only [List.cons_append] at e
              rw [e]
            · simp only [if_neg h5]
          · simp only [if_neg h4]
            rfl
/-- Whether a token begins is told by two bytes. -/
theorem tokenL_zero (c d : UInt8) (r r' : Bs) (h : (tokenL (c :: d :: r)).2 = 0) : (tokenL (c :: d :: r')).2 = 0 := by
  simp only [tokenL] at h ⊢
  by_cases h1 : (smallB c.toNat || (c.toNat : Int) == 95) = true
  · simp only [if_pos h1] at h
    have := nm_start c (.inl h1)
    rw [runL_cons, if_pos this] at h; omega
  · simp only [if_neg h1] at h ⊢
    by_cases h2 : greatB c.toNat = true
    · simp only [if_pos h2] at h
      have := nm_start c (.inr h2)
      rw [runL_cons, if_pos this] at h; omega
    · simp only [if_neg h2] at h ⊢
      by_cases h3 : digitB c.toNat = true
      · simp only [if_pos h3] at h; omega
      · simp only [if_neg h3] at h ⊢
        by_cases h4 : ((c.toNat : Int) == 39) = true
        · simp only [if_pos h4] at h ⊢
          by_cases h5 : smallB d.toNat = true
          · simp only [if_pos h5] at h; omega
          · simp only [if_neg h5]
        · simp only [if_neg h4] at h ⊢
          exact h
theorem noL_in (p r r' : Bs) (h : noL (p ++ r) + 1 < p.length) : noL (p ++ r') = noL (p ++ r) := by
  induction p with
  | nil => simp at h
  | cons c p ih =>
    rcases p with _ | ⟨d, p⟩
    · simp at h
    · simp only [List.cons_append, List.length_cons] at h ih ⊢
      have u1 : noL (c :: d :: (p ++ r)) = if whiteB c.toNat || opensL (c :: d :: (p ++ r)) || decide (0 < (tokenL (c :: d :: (p ++ r))).2) then 0 else 1 + noL (d :: (p ++ r)) := rfl
      have u2 : noL (c :: d :: (p ++ r')) = if whiteB c.toNat || opensL (c :: d :: (p ++ r')) || decide (0 < (tokenL (c :: d :: (p ++ r'))).2) then 0 else 1 + noL (d :: (p ++ r')) := rfl
      rw [u1] at h ⊢
      rw [u2]
      have ho : opensL (c :: d :: (p ++ r')) = opensL (c :: d :: (p ++ r)) := rfl
      have ht : decide (0 < (tokenL (c :: d :: (p ++ r'))).2) = decide (0 < (tokenL (c :: d :: (p ++ r))).2) := by
        rw [Bool.eq_iff_iff]
        simp only [decide_eq_true_eq]
        constructor
        · intro h1
          rcases Nat.eq_zero_or_pos (tokenL (c :: d :: (p ++ r))).2 with h2 | h2
          · have := tokenL_zero c d (p ++ r) (p ++ r') h2; omega
          · exact h2
        · intro h1
          rcases Nat.eq_zero_or_pos (tokenL (c :: d :: (p ++ r'))).2 with h2 | h2
          · have := tokenL_zero c d (p ++ r') (p ++ r) h2; omega
          · exact h2
      rw [ho, ht]
      split
      · rfl
      · rename_i hc
        rw [if_neg hc] at h
        rw [ih (by omega)]
theorem remL_beyond (p r : Bs) (d : Int) (n : Nat) (h : (remL p d n).2 = false) : n + p.length ≤ (remL (p ++ r) d n).1 := by
  fun_induction remL p d n with
  | case1 d n => simpa using (remL_ge r d n).1
  | case2 a d n =>
    rcases r with _ | ⟨b, r⟩
    · simp [remL]
    · simp only [List.cons_append, List.nil_append, List.length_cons, List.length_nil]
      rw [remL]
      split
      · have := (remL_ge r (d + 1) (n + 2)).1; omega
      · split
        · split
          · simp only; omega
          · have := (remL_ge r (d - 1) (n + 2)).1; omega
        · have := (remL_ge (b :: r) d (n + 1)).1; omega
  | case3 a b q d n ho ih =>
    simp only [List.cons_append, List.length_cons]
    rw [remL, if_pos (by simpa [opensL] using ho)]
    have := ih h; omega
  | case4 a b q d n ho hc hz => simp at h
  | case5 a b q d n ho hc hz ih =>
    simp only [List.cons_append, List.length_cons]
    rw [remL, if_neg (by simpa [opensL] using ho), if_pos (by simpa [closesL] using hc), if_neg hz]
    have := ih h; omega
  | case6 a b q d n ho hc ih =>
    have := ih h
    simp only [List.cons_append, List.length_cons] at this ⊢
    rw [remL, if_neg (by simpa [opensL] using ho), if_neg (by simpa [closesL] using hc)]
    omega

theorem front_shared (f n : Nat) : ∀ (p : Bs) (k : Nat) (r r' : Bs), p.length ≤ n → k + p.length = f → (lx (p ++ r) k).takeWhile (isFront f) <+: lx (p ++ r') k := by
  induction n with
  | zero =>
    intro p k r r' hn hk
    rw [late_none f _ k (by omega)]; exact List.nil_prefix
  | succ n ih =>
    intro p k r r' hn hk
    by_cases hsh : p.length ≤ 2
    · rw [late_none f _ k (by omega)]; exact List.nil_prefix
    · rcases p with _ | ⟨c, q⟩
      · simp at hsh
      · simp only [List.length_cons] at hn hk hsh
        have hop : ∀ r, opensL (c :: (q ++ r)) = opensL (c :: q) := by
          intro r
          rcases q with _ | ⟨d, q⟩
          · simp at hsh
          · rfl
        rw [List.cons_append, List.cons_append]
        cases hw : whiteB c.toNat
        · cases ho : opensL (c :: q)
          · rw [lx_piece _ _ _ hw ((hop r).trans ho), lx_piece _ _ _ hw ((hop r').trans ho)]
            by_cases hz : (pieceL (c :: (q ++ r))).2 + 1 < (c :: q).length
            · have hpe : pieceL (c :: (q ++ r')) = pieceL (c :: (q ++ r)) := by
                unfold pieceL at hz ⊢
                by_cases h0 : (tokenL (c :: (q ++ r))).2 = 0
                · rw [if_pos h0] at hz ⊢
                  have h0' : (tokenL (c :: (q ++ r'))).2 = 0 := by
                    rcases q with _ | ⟨d, q⟩
                    · simp at hsh
                    · exact tokenL_zero c d _ _ h0
                  rw [if_pos h0']
                  simp only [List.tail_cons, List.length_cons] at hz ⊢
                  rw [noL_in q r r' (by omega)]
                · rw [if_neg h0] at hz ⊢
                  have := tokenL_in (c :: q) r r' hz
                  rw [List.cons_append, List.cons_append] at this
                  rw [this, if_neg h0]
              rw [hpe]
              have hpos := pieceL_pos (c :: (q ++ r))
              rw [List.takeWhile_cons]
              split
              · rw [← List.cons_append, ← List.cons_append] at *
                rw [List.drop_append_of_le_length (by omega), List.drop_append_of_le_length (by omega)]
                refine (List.prefix_cons_inj _).2 (ih _ _ _ _ ?_ ?_)
                · rw [List.length_drop]; simp only [List.length_cons]; omega
                · rw [List.length_drop]; simp only [List.length_cons] at hz ⊢; omega
              · exact List.nil_prefix
            · rw [List.takeWhile_cons, if_neg (by simp only [isFront, decide_eq_true_eq, List.length_cons] at hz ⊢; omega)]
              exact List.nil_prefix
          · cases hr : (remL (c :: q) 0 0).2
            · have hbey := remL_beyond (c :: q) r 0 0 hr
              rw [List.cons_append] at hbey
              simp only [List.length_cons] at hbey
              cases hr1 : (remL (c :: (q ++ r)) 0 0).2
              · rw [lx_open _ _ _ hw ((hop r).trans ho) hr1, front_none]
                · exact List.nil_prefix
                · intro t ht
                  simp at ht; rw [ht]; simp only; omega
              · rw [lx_remark _ _ _ hw ((hop r).trans ho) hr1, late_none f _ _ (by omega)]
                exact List.nil_prefix
            · have hpos := remL_pos (c :: q) ho 0 0
              have hle := (remL_ge (c :: q) 0 0).2
              have m1 := remL_more (c :: q) 0 0 r hr
              have m2 := remL_more (c :: q) 0 0 r' hr
              rw [List.cons_append] at m1 m2
              rw [lx_remark _ _ _ hw ((hop r).trans ho) (by rw [m1]; exact hr), lx_remark _ _ _ hw ((hop r').trans ho) (by rw [m2]; exact hr), m1, m2, ← List.cons_append, ← List.cons_append]
              rw [List.drop_append_of_le_length (by omega), List.drop_append_of_le_length (by omega)]
              refine ih _ _ _ _ ?_ ?_
              · rw [List.length_drop]; simp only [List.length_cons]; omega
              · rw [List.length_drop]; simp only [List.length_cons] at hle ⊢; omega
        · rw [lx_white _ _ _ hw, lx_white _ _ _ hw]
          exact ih _ _ _ _ (by omega) (by omega)
/-- The tokens of the front are the same behind an edit. -/
theorem front_kept (s more : Bs) (f t : Nat) (hf : f ≤ s.length) (ht : f ≤ t) : frontN f (lx s 0) ≤ (lx (edit s f t more) 0).length ∧ (lx (edit s f t more) 0).take (frontN f (lx s 0)) = (lx s 0).take (frontN f (lx s 0)) := by
  have hpre := front_shared f f (s.take f) 0 (s.drop f) (more ++ s.drop t) (by rw [List.length_take]; omega) (by rw [List.length_take]; omega)
  rw [List.take_append_drop, ← List.append_assoc] at hpre
  change (lx s 0).takeWhile (isFront f) <+: lx (edit s f t more) 0 at hpre
  have hN : frontN f (lx s 0) = ((lx s 0).takeWhile (isFront f)).length := by
    unfold frontN; rw [front_while s f _ 0 (whole_lx s)]
  have htk : (lx s 0).take (frontN f (lx s 0)) = (lx s 0).takeWhile (isFront f) := by
    rw [hN]
    exact (List.prefix_iff_eq_take.1 (List.takeWhile_prefix _)).symm
  refine ⟨by rw [hN]; exact hpre.length_le, ?_⟩
  rw [htk, hN]
  exact (List.prefix_iff_eq_take.1 hpre).symm
end Go.Proofs.Ytniofjeefphlmaa
