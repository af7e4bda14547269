/- Plain: a token taken alone, or with a part of what follows it, is the same token; words with a blank behind each; the kind of a word. No program in sight. -/
import Derived.Test.YtafpbdmggnfdnaaPlainMoved
namespace Go.Proofs.Ytafpbdmggnfdnaa
set_option linter.unusedVariables false

theorem takeWhile_take (f : UInt8 → Bool) (l : Bs) (m : Nat) : (l.take m).takeWhile f = (l.takeWhile f).take m := by
  induction l generalizing m with
  | nil => simp
  | cons c l ih =>
    rcases m with _ | m
    · simp
    · simp only [List.take_succ_cons, List.takeWhile_cons]
      split
      · rw [ih, List.take_succ_cons]
      · simp
theorem runL_take (t : Bool) (l : Bs) (m : Nat) (h : runL t l ≤ m) : runL t (l.take m) = runL t l := by
  unfold runL at *; rw [takeWhile_take, List.take_of_length_le h]
theorem digL_take (l : Bs) (m : Nat) (h : digL l ≤ m) : digL (l.take m) = digL l := by
  unfold digL at *; rw [takeWhile_take, List.take_of_length_le h]
theorem tokenL_take (l : Bs) (m : Nat) (h0 : 0 < (tokenL l).2) (hm : (tokenL l).2 ≤ m) : tokenL (l.take m) = tokenL l := by
  rcases l with _ | ⟨c, r⟩
  · simp
  · rcases m with _ | m
    · omega
    · rw [List.take_succ_cons]
      simp only [tokenL] at h0 hm ⊢
      by_cases h1 : (smallB c.toNat || (c.toNat : Int) == 95) = true
      · simp only [if_pos h1] at h0 hm ⊢
        have e := runL_take true (c :: r) (m + 1) hm
        rw [List.take_succ_cons] at e
        rw [e, ← List.take_succ_cons, List.take_take, Nat.min_eq_left hm]
      · simp only [if_neg h1] at h0 hm ⊢
        by_cases h2 : greatB c.toNat = true
        · simp only [if_pos h2] at h0 hm ⊢
          have e := runL_take true (c :: r) (m + 1) hm
          rw [List.take_succ_cons] at e
          rw [e]
        · simp only [if_neg h2] at h0 hm ⊢
          by_cases h3 : digitB c.toNat = true
          · simp only [if_pos h3] at h0 hm ⊢
            rw [digL_take r m (by omega)]
          · simp only [if_neg h3] at h0 hm ⊢
            by_cases h4 : ((c.toNat : Int) == 39) = true
            · simp only [if_pos h4] at h0 hm ⊢
              rcases r with _ | ⟨d, r⟩
              · simp at h0
              · dsimp only at h0 hm ⊢
                by_cases h5 : smallB d.toNat = true
                · simp only [if_pos h5] at h0 hm ⊢
                  have hd : nm false d = true := by unfold nm nameB; simp [h5]
                  have hm1 : 1 + runL false (d :: r) ≤ m + 1 := hm
                  rw [runL_cons, if_pos hd] at hm1
                  obtain ⟨m, rfl⟩ : ∃ k, m = k + 1 := ⟨m - 1, by omega⟩
                  rw [List.take_succ_cons]
                  dsimp only
                  rw [if_pos h5]
                  have e := runL_take false (d :: r) (m + 1) (by rw [runL_cons, if_pos hd]; omega)
                  rw [List.take_succ_cons] at e
                  rw [e]
                · simp [if_neg h5] at h0
            · simp only [if_neg h4] at h0 hm ⊢
              by_cases h5 : 0 < signL (c :: r)
              · simp only [if_pos h5] at h0 hm ⊢
                have e : signL (c :: r.take m) = signL (c :: r) := by
                  rcases r with _ | ⟨d, r⟩
                  · simp
                  · rcases m with _ | m
                    · simp only [List.take_zero]
                      simp only [signL] at h5 hm ⊢
                      by_cases h6 : sign2B c.toNat d.toNat = true
                      · simp [if_pos h6] at hm
                      · simp only [if_neg h6]
                    · rw [List.take_succ_cons]; rfl
                rw [e, if_pos h5]
              · simp [if_neg h5] at h0

/-- The word of a token. -/
def wordOf (l : Bs) (t : Tk) : Bs := (l.drop t.2.1.toNat).take (t.2.2 - t.2.1).toNat

/-- A word that is just one token of this kind. -/
structure WordOk (k : Int) (u : Bs) : Prop where
  ne : u ≠ []
  tok : tokenL u = (k, u.length)
  white : ∀ c r, u = c :: r → whiteB c.toNat = false
  opens : ∀ r, opensL (u ++ 32 :: r) = false

theorem tok_kind_7 (l : Bs) : (tokenL l).1 ≠ 7 := by
  rcases l with _ | ⟨c, r⟩
  · simp [tokenL]
  · simp only [tokenL]
    split
    · simp only [wordKindL]; (repeat' split) <;> decide
    · split
      · simp
      · split
        · simp
        · split
          · rcases r with _ | ⟨d, r⟩
            · decide
            · dsimp only; split <;> simp
          · split <;> simp
theorem tok_white (c : UInt8) (r : Bs) (h : 0 < (tokenL (c :: r)).2) : whiteB c.toNat = false := by
  cases hw : whiteB c.toNat
  · rfl
  · exfalso
    simp [whiteB] at hw
    have hc : c = 32 ∨ c = 9 ∨ c = 10 ∨ c = 13 := by
      simp only [← UInt8.toNat_inj]
      rcases hw with ((h | h) | h) | h
      · left; simp; omega
      · right; left; simp; omega
      · right; right; left; simp; omega
      · right; right; right; simp; omega
    rcases hc with rfl | rfl | rfl | rfl <;> rcases r with _ | ⟨d, r⟩ <;> simp [tokenL, smallB, greatB, digitB, signL, sign1B, sign2B] at h
theorem wordOk_of (l : Bs) (k : Int) (z : Nat) (hz : 0 < z) (ht : tokenL l = (k, z)) (ho : opensL l = false) : WordOk k (l.take z) := by
  have hle : z ≤ l.length := by have := tokenL_le l; rw [ht] at this; exact this
  rcases l with _ | ⟨c, r⟩
  · simp at hle; omega
  · have hlen : ((c :: r).take z).length = z := by rw [List.length_take]; omega
    refine ⟨by intro e; rw [e] at hlen; simp at hlen; omega, ?_, ?_, ?_⟩
    · rw [tokenL_take _ _ (by rw [ht]; exact hz) (by rw [ht]; exact Nat.le_refl _), ht, hlen]
    · intro c' r' e
      obtain ⟨z, rfl⟩ : ∃ y, z = y + 1 := ⟨z - 1, by omega⟩
      rw [List.take_succ_cons] at e
      injection e with e _
      rw [← e]
      exact tok_white c r (by rw [ht]; exact hz)
    · intro x
      obtain ⟨z, rfl⟩ : ∃ y, z = y + 1 := ⟨z - 1, by omega⟩
      rw [List.take_succ_cons, opensL_blank]
      rcases r with _ | ⟨d, r⟩
      · simp [opensL]
      · rcases z with _ | z
        · simp [opensL]
        · rw [List.take_succ_cons]; exact ho

theorem words_ok (n : Nat) : ∀ (s : Bs) (k : Nat), s.length - k ≤ n → k ≤ s.length → ∀ t ∈ lx (s.drop k) k, t.1 ≠ 7 → WordOk t.1 (wordOf s t) ∧ ∃ f z : Nat, t.2.1 = f ∧ t.2.2 = f + z ∧ f + z ≤ s.length ∧ tokenL (s.drop f) = (t.1, z) ∧ 0 < z := by
  induction n with
  | zero =>
    intro s k hn hk t ht
    rw [List.drop_of_length_le (by omega), lx_nil] at ht
    simp at ht
  | succ n ih =>
    intro s k hn hk t ht h7
    by_cases hlt : k < s.length
    · have hdr := List.drop_eq_getElem_cons hlt
      cases hw : whiteB (s[k].toNat)
      · cases ho : opensL (s.drop k)
        · have ho' := ho
          rw [hdr] at ho'
          have hp := pieceL_pos (s.drop k)
          have hl := pieceL_le s[k] (s.drop (k + 1))
          rw [← hdr, List.length_drop] at hl
          rw [hdr, lx_piece _ _ _ hw ho', ← hdr] at ht
          rcases List.mem_cons.1 ht with rfl | ht
          · have hpt : pieceL (s.drop k) = tokenL (s.drop k) ∧ 0 < (tokenL (s.drop k)).2 := by
              unfold pieceL at h7 ⊢
              split
              · rename_i h; rw [if_pos h] at h7; exact absurd rfl h7
              · exact ⟨rfl, by omega⟩
            rw [hpt.1] at hl ⊢
            generalize hT : tokenL (s.drop k) = T at *
            obtain ⟨a, z⟩ := T
            simp only at hpt hl ⊢
            refine ⟨?_, k, z, rfl, rfl, by omega, hT, hpt.2⟩
            have := wordOk_of (s.drop k) a z hpt.2 hT ho
            unfold wordOf
            rw [show ((k : Int) + (z : Int) - (k : Int)).toNat = z by omega, Int.toNat_natCast]
            exact this
          · rw [List.drop_drop] at ht
            exact ih s _ (by omega) (by omega) t ht h7
        · cases hr : (remL (s.drop k) 0 0).2
          · have ho' := ho
            have hr' := hr
            rw [hdr] at ho' hr'
            rw [hdr, lx_open _ _ _ hw ho' hr'] at ht
            simp at ht
            rw [ht] at h7
            exact absurd rfl h7
          · have hp := remL_pos (s.drop k) ho 0 0
            have hl := (remL_ge (s.drop k) 0 0).2
            rw [List.length_drop] at hl
            have hlx : lx (s.drop k) k = lx (s.drop (k + (remL (s.drop k) 0 0).1)) (k + (remL (s.drop k) 0 0).1) := by
              rw [← List.drop_drop]
              rw [hdr] at ho hr ⊢
              exact lx_remark _ _ _ hw ho hr
            rw [hlx] at ht
            exact ih s _ (by omega) (by omega) t ht h7
      · rw [hdr, lx_white _ _ _ hw] at ht
        exact ih s _ (by omega) (by omega) t ht h7
    · exact ih s k (by omega) hk t ht h7
theorem lx_words (s : Bs) (t : Tk) (ht : t ∈ lx s 0) (h7 : t.1 ≠ 7) : WordOk t.1 (wordOf s t) ∧ ∃ f z : Nat, t.2.1 = f ∧ t.2.2 = f + z ∧ f + z ≤ s.length ∧ tokenL (s.drop f) = (t.1, z) ∧ 0 < z :=
  words_ok s.length s 0 (by omega) (Nat.zero_le _) t (by simpa using ht) h7

/-! ### Words, each with a blank behind it -/
def joined : List (Int × Bs) → Bs
  | [] => []
  | (_, u) :: r => u ++ 32 :: joined r
def again : List (Int × Bs) → Nat → List Tk
  | [], _ => []
  | (k, u) :: r, p => (k, (p : Int), ((p + u.length : Nat) : Int)) :: again r (p + u.length + 1)
theorem lx_joined (ps : List (Int × Bs)) : ∀ (p : Nat), (∀ x ∈ ps, WordOk x.1 x.2) → lx (joined ps) p = again ps p := by
  induction ps with
  | nil => intro p _; rfl
  | cons x ps ih =>
    intro p h
    obtain ⟨k, u⟩ := x
    obtain ⟨h1, h2, h3, h4⟩ := h (k, u) (List.mem_cons_self)
    simp only at h1 h2 h3 h4
    rw [joined, again]
    rcases u with _ | ⟨c, u⟩
    · exact absurd rfl h1
    · have hw := h3 c u rfl
      have ho := h4 (joined ps)
      have ht := tokenL_blank c u (joined ps)
      have hp : pieceL (c :: u ++ 32 :: joined ps) = (k, (c :: u).length) := by
        unfold pieceL
        rw [ht, h2, if_neg (by simp)]
      rw [List.cons_append] at ho hp ⊢
      rw [lx_piece _ _ _ hw ho, hp]
      congr 1
      rw [← List.cons_append, List.drop_append_of_le_length (Nat.le_refl _), List.drop_of_length_le (Nat.le_refl _), List.nil_append, lx_white _ _ _ (by decide)]
      exact ih _ (fun x hx => h x (List.mem_cons_of_mem _ hx))
theorem again_length (ps : List (Int × Bs)) : ∀ p, (again ps p).length = ps.length := by
  induction ps with
  | nil => intro p; rfl
  | cons x ps ih => intro p; obtain ⟨k, u⟩ := x; simp [again, ih]
theorem again_at (ps : List (Int × Bs)) : ∀ (pre : Bs) (i : Nat) (hi : i < ps.length), ∃ f : Nat, (again ps pre.length)[i]? = some (ps[i].1, (f : Int), ((f + ps[i].2.length : Nat) : Int)) ∧
    f + ps[i].2.length ≤ (pre ++ joined ps).length ∧ ((pre ++ joined ps).drop f).take ps[i].2.length = ps[i].2 := by
  induction ps with
  | nil => intro pre i hi; simp at hi
  | cons x ps ih =>
    intro pre i hi
    obtain ⟨k, u⟩ := x
    rcases i with _ | i
    · refine ⟨pre.length, by simp [again], ?_, ?_⟩
      · simp [joined]
      · simp [joined]
    · have hi' : i < ps.length := by simpa using hi
      obtain ⟨f, h1, h2, h3⟩ := ih (pre ++ u ++ [32]) i hi'
      have e : pre ++ joined ((k, u) :: ps) = pre ++ u ++ [32] ++ joined ps := by simp [joined]
      refine ⟨f, ?_, ?_, ?_⟩
      · rw [again]
        rw [show pre.length + u.length + 1 = (pre ++ u ++ [32]).length by simp; omega]
        simpa using h1
      · rw [e]; simpa using h2
      · rw [e]; simpa using h3

/-! ### The kind of a word -/
def kindL (u : Bs) : Int := if u = [] then 0 else if (tokenL u).2 = u.length then (tokenL u).1 else 0
theorem kind_long (l : Bs) (m : Nat) (h0 : 0 < (tokenL l).2) (hm : (tokenL l).2 < m) (hl : m ≤ l.length) : kindL (l.take m) = 0 := by
  unfold kindL
  rw [tokenL_take l m h0 (by omega), List.length_take, Nat.min_eq_left hl, if_neg (show ¬ (tokenL l).2 = m by omega)]
  split <;> rfl
theorem kind_word {k : Int} {u : Bs} (h : WordOk k u) : kindL u = k := by
  unfold kindL
  rw [if_neg h.ne, h.tok, if_pos rfl]
/-- The reference's way: the text's only token. -/
def kindR (u : Bs) : Int := match lx u 0 with
  | [t] => if t.2.1 = 0 ∧ t.2.2 = u.length ∧ t.1 ≠ 7 then t.1 else 0
  | _ => 0

theorem lexL_ge (n : Nat) : ∀ (l : Bs) (p : Nat), ∀ t ∈ lexL n l p, (p : Int) ≤ t.2.1 := by
  induction n with
  | zero => intro l p t ht; simp [lexL] at ht
  | succ n ih =>
    intro l p t ht
    rcases l with _ | ⟨c, r⟩
    · simp [lexL] at ht
    · unfold lexL at ht
      split at ht
      · have := ih _ _ t ht; omega
      · split at ht
        · split at ht
          · have := ih _ _ t ht; omega
          · simp at ht; rw [ht]; exact Int.le_refl _
        · rcases List.mem_cons.1 ht with rfl | ht
          · exact Int.le_refl _
          · have := ih _ _ t ht; omega
theorem lx_ge (l : Bs) (p : Nat) (t : Tk) (h : t ∈ lx l p) : (p : Int) ≤ t.2.1 := lexL_ge _ l p t h
theorem opens_tok1 (l : Bs) (h : opensL l = true) : (tokenL l).2 = 1 ∧ 2 ≤ l.length := by
  rcases l with _ | ⟨c, _ | ⟨d, r⟩⟩
  · simp [opensL] at h
  · simp [opensL] at h
  · simp [opensL] at h
    have hc : c = 40 := by rw [← UInt8.toNat_inj]; have := h.1; simp; omega
    have hd : d = 42 := by rw [← UInt8.toNat_inj]; have := h.2; simp; omega
    subst hc hd
    simp [tokenL, smallB, greatB, digitB, signL, sign1B, sign2B]
theorem kind_same (u : Bs) : kindR u = kindL u := by
  rcases u with _ | ⟨c, r⟩
  · simp [kindR, kindL, lx_nil]
  · by_cases hz : (tokenL (c :: r)).2 = (c :: r).length
    · have h0 : 0 < (tokenL (c :: r)).2 := by rw [hz]; simp
      have hw := tok_white c r h0
      have ho : opensL (c :: r) = false := by
        cases ho : opensL (c :: r)
        · rfl
        · have := opens_tok1 _ ho; omega
      have hp : pieceL (c :: r) = tokenL (c :: r) := by unfold pieceL; rw [if_neg (by omega)]
      have h7 := tok_kind_7 (c :: r)
      unfold kindR kindL
      rw [lx_piece _ _ _ hw ho, hp, hz, List.drop_of_length_le (Nat.le_refl _), lx_nil, if_neg (by simp), if_pos rfl]
      simp [h7]
    · unfold kindL
      rw [if_neg (by simp), if_neg hz]
      unfold kindR
      split
      · rename_i t ht
        rw [if_neg]
        rintro ⟨h1, h2, h3⟩
        have hmem : t ∈ lx (c :: r) 0 := by rw [ht]; simp
        cases hw : whiteB c.toNat
        · cases ho : opensL (c :: r)
          · rw [lx_piece _ _ _ hw ho] at ht
            injection ht with ht _
            rw [← ht] at h2 h3
            simp only at h2 h3
            unfold pieceL at h2 h3
            split at h3
            · exact h3 rfl
            · rename_i h; rw [if_neg h] at h2; omega
          · cases hr : (remL (c :: r) 0 0).2
            · rw [lx_open _ _ _ hw ho hr] at ht
              injection ht with ht _
              rw [← ht] at h3
              exact h3 rfl
            · rw [lx_remark _ _ _ hw ho hr] at hmem
              have := lx_ge _ _ _ hmem
              have := remL_pos (c :: r) ho 0 0
              omega
        · rw [lx_white _ _ _ hw] at hmem
          have := lx_ge _ _ _ hmem
          omega
      · rfl
end Go.Proofs.Ytafpbdmggnfdnaa
