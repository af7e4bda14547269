/- Plain: tokens of a text that is moved on, and of a text with a blank and more behind it. No program in sight. -/
import Derived.Test.YtafpbdmggnfdnaaPlain
namespace Go.Proofs.Ytafpbdmggnfdnaa
set_option linter.unusedVariables false

def mv (q : Nat) (t : Tk) : Tk := (t.1, t.2.1 + q, t.2.2 + q)
theorem lexL_move (n : Nat) : ∀ (l : Bs) (p q : Nat), lexL n l (p + q) = (lexL n l p).map (mv q) := by
  induction n with
  | zero => intro l p q; rfl
  | succ n ih =>
    intro l p q
    rcases l with _ | ⟨c, r⟩
    · rfl
    · unfold lexL
      split
      · rw [show p + q + 1 = (p + 1) + q by omega, ih]
      · split
        · split
          · rw [show p + q + (remL (c :: r) 0 0).1 = (p + (remL (c :: r) 0 0).1) + q by omega, ih]
          · simp [mv]; omega
        · rw [show p + q + (pieceL (c :: r)).2 = (p + (pieceL (c :: r)).2) + q by omega, ih]
          simp [mv]; omega
theorem lx_move (l : Bs) (p q : Nat) : lx l (p + q) = (lx l p).map (mv q) := lexL_move _ l p q

/-- "\n (* let ) *) " -/
def chunk : Bs := [10, 32, 40, 42, 32, 108, 101, 116, 32, 41, 32, 42, 41, 32]
def chunks : Nat → Bs
  | 0 => []
  | n + 1 => chunks n ++ chunk
theorem chunks_length (n : Nat) : (chunks n).length = 14 * n := by
  induction n with
  | zero => rfl
  | succ n ih => rw [chunks, List.length_append, ih]; simp [chunk]; omega
theorem lx_chunk (l : Bs) (p : Nat) : lx (chunk ++ l) p = lx l (p + 14) := by
  show lx (10 :: 32 :: 40 :: 42 :: 32 :: 108 :: 101 :: 116 :: 32 :: 41 :: 32 :: 42 :: 41 :: 32 :: l) p = _
  rw [lx_white _ _ _ (by decide), lx_white _ _ _ (by decide)]
  have hr : remL (40 :: 42 :: 32 :: 108 :: 101 :: 116 :: 32 :: 41 :: 32 :: 42 :: 41 :: 32 :: l) 0 0 = (11, true) := by
    simp [remL, opensL, closesL]
  rw [lx_remark _ _ _ (by decide) (by simp [opensL]) (by rw [hr]), hr]
  show lx (32 :: l) (p + 1 + 1 + 11) = _
  rw [lx_white _ _ _ (by decide)]
theorem lx_chunks (n : Nat) : ∀ (l : Bs) (p : Nat), lx (chunks n ++ l) p = lx l (p + 14 * n) := by
  induction n with
  | zero => intro l p; simp [chunks]
  | succ n ih =>
    intro l p
    rw [chunks, List.append_assoc, ih, lx_chunk]
    congr 1

/-! ### A blank behind a text -/
theorem takeWhile_blank (f : UInt8 → Bool) (hf : f 32 = false) (l r : Bs) : (l ++ 32 :: r).takeWhile f = l.takeWhile f := by
  induction l with
  | nil => simp [List.takeWhile_cons, hf]
  | cons c l ih => simp only [List.cons_append, List.takeWhile_cons, ih]
theorem runL_blank (t : Bool) (l r : Bs) : runL t (l ++ 32 :: r) = runL t l := by
  unfold runL; rw [takeWhile_blank _ (by cases t <;> decide)]
theorem digL_blank (l r : Bs) : digL (l ++ 32 :: r) = digL l := by
  unfold digL; rw [takeWhile_blank _ (by decide)]
theorem signL_blank (c : UInt8) (l r : Bs) : signL (c :: l ++ 32 :: r) = signL (c :: l) := by
  rcases l with _ | ⟨d, l⟩
  · simp [signL, sign2B]
  · rfl
theorem tokenL_blank (c : UInt8) (l r : Bs) : tokenL (c :: l ++ 32 :: r) = tokenL (c :: l) := by
  have h1 := runL_blank true (c :: l) r
  have h2 := signL_blank c l r
  rw [List.cons_append] at h1 h2 ⊢
  simp only [tokenL]
  rw [h1, h2, digL_blank]
  congr 1
  · rw [← List.cons_append, List.take_append_of_le_length (runL_le _ _)]
  · congr 1
    congr 1
    congr 1
    rcases l with _ | ⟨d, l⟩
    · simp [smallB]
    · have := runL_blank false (d :: l) r
      rw [List.cons_append] at this ⊢
      dsimp only
      rw [this]
theorem opensL_blank (c : UInt8) (l r : Bs) : opensL (c :: l ++ 32 :: r) = opensL (c :: l) := by
  rcases l with _ | ⟨d, l⟩
  · simp [opensL]
  · rfl
theorem noL_blank (l r : Bs) : noL (l ++ 32 :: r) = noL l := by
  induction l with
  | nil => simp [noL, whiteB]
  | cons c l ih =>
    have h1 := tokenL_blank c l r
    have h2 := opensL_blank c l r
    rw [List.cons_append] at h1 h2 ⊢
    rw [noL, h1, h2, ih]
    rfl
theorem pieceL_blank (c : UInt8) (l r : Bs) : pieceL (c :: l ++ 32 :: r) = pieceL (c :: l) := by
  unfold pieceL
  rw [tokenL_blank, List.cons_append, List.tail_cons, List.tail_cons, noL_blank]
theorem remL_more (l : Bs) (d : Int) (n : Nat) (x : Bs) (h : (remL l d n).2 = true) : remL (l ++ x) d n = remL l d n := by
  fun_induction remL l d n with
  | case1 => simp at h
  | case2 => simp at h
  | case3 a b r d n ho ih =>
    rw [List.cons_append, List.cons_append, remL, if_pos (by simpa [opensL] using ho)]
    exact ih h
  | case4 a b r d n ho hc hz =>
    rw [List.cons_append, List.cons_append, remL, if_neg (by simpa [opensL] using ho), if_pos (by simpa [closesL] using hc), if_pos hz]
  | case5 a b r d n ho hc hz ih =>
    rw [List.cons_append, List.cons_append, remL, if_neg (by simpa [opensL] using ho), if_pos (by simpa [closesL] using hc), if_neg hz]
    exact ih h
  | case6 a b r d n ho hc ih =>
    rw [List.cons_append, List.cons_append, remL, if_neg (by simpa [opensL] using ho), if_neg (by simpa [closesL] using hc)]
    exact ih h

/-- The last token, if there is one, is something. -/
def Sound (xs : List Tk) : Prop := ∀ t, xs.getLast? = some t → t.1 ≠ 7
theorem Sound.tail {t : Tk} {xs : List Tk} (h : Sound (t :: xs)) : Sound xs := by
  intro u hu
  refine h u ?_
  rw [List.getLast?_cons, hu]; rfl
theorem lx_blank (n : Nat) : ∀ (l r : Bs) (p : Nat), l.length ≤ n → Sound (lx l p) → lx (l ++ 32 :: r) p = lx l p ++ lx (32 :: r) (p + l.length) := by
  induction n with
  | zero =>
    intro l r p hn hs
    have : l = [] := List.eq_nil_of_length_eq_zero (by omega)
    subst this
    simp [lx_nil]
  | succ n ih =>
    intro l r p hn hs
    rcases l with _ | ⟨c, l⟩
    · simp [lx_nil]
    · simp only [List.length_cons] at hn
      have hob := opensL_blank c l r
      have hpb := pieceL_blank c l r
      cases hw : whiteB c.toNat
      · cases ho : opensL (c :: l)
        · rw [ho] at hob
          have hp := pieceL_pos (c :: l)
          have hl := pieceL_le c l
          rw [lx_piece _ _ _ hw ho] at hs ⊢
          rw [List.cons_append] at hob hpb ⊢
          rw [lx_piece _ _ _ hw hob, hpb, ← List.cons_append, List.drop_append_of_le_length hl, ih _ _ _ (by rw [List.length_drop, List.length_cons]; omega) hs.tail, List.cons_append]
          congr 3
          rw [List.length_drop]; omega
        · cases hr : (remL (c :: l) 0 0).2
          · rw [lx_open _ _ _ hw ho hr] at hs
            exact absurd rfl (hs _ rfl)
          · rw [ho] at hob
            have hp := remL_pos (c :: l) ho 0 0
            have hl := (remL_ge (c :: l) 0 0).2
            have hm := remL_more (c :: l) 0 0 (32 :: r) hr
            rw [lx_remark _ _ _ hw ho hr] at hs ⊢
            rw [List.cons_append] at hob hm ⊢
            rw [lx_remark _ _ _ hw hob (by rw [hm]; exact hr), hm, ← List.cons_append, List.drop_append_of_le_length (by omega), ih _ _ _ (by rw [List.length_drop, List.length_cons]; omega) hs]
            congr 2
            rw [List.length_drop]; omega
      · rw [lx_white _ _ _ hw] at hs ⊢
        rw [List.cons_append, lx_white _ _ _ hw, ih _ _ _ (by omega) hs]
        congr 2
        simp; omega
theorem lx_behind (l : Bs) (n : Nat) (h : Sound (lx l 0)) : lx (l ++ 32 :: chunks n) 0 = lx l 0 := by
  rw [lx_blank _ l _ 0 (Nat.le_refl _) h, lx_white _ _ _ (by decide)]
  have := lx_chunks n [] (0 + l.length + 1)
  rw [List.append_nil] at this
  rw [this, lx_nil, List.append_nil]
theorem lx_ahead (l : Bs) (n : Nat) : lx (chunks n ++ l) 0 = (lx l 0).map (mv (14 * n)) := by
  rw [lx_chunks, ← lx_move]
end Go.Proofs.Ytafpbdmggnfdnaa
