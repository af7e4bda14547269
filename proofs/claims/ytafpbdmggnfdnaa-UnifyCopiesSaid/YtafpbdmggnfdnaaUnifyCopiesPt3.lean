/- Part 3 of the proof of UnifyCopies: what follows was kept as these texts: PlainAgain, Word, StoreMake, StoreForm, StorePut. -/
import Derived.Test.YtafpbdmggnfdnaaUnifyCopiesPt1
import Derived.Test.YtafpbdmggnfdnaaUnifyCopiesPt2
import Derived.Deep.RegionHeld3
import Derived.Lib.SliceRun
import Derived.Deep.QuietTactic
import Derived.BigQuiet
/- Plain: a token taken alone, or with a part of what follows it, is the same token; words with a blank behind each; the kind of a word. No program in sight. -/
namespace Go.Proofs.Ytafpbdmggnfdnaa
set_option linter.unusedVariables false

theorem takeWhile_take (f : UInt8 → Bool) (l : Bs) (m : Nat) : (l.take m).takeWhile f = (l.takeWhile f).take m := by
  induction l generalizing m with
  | nil => simp
  | cons c l ih =>
    rcases m with _ | m
    · simp
    · simp only [List.take_succ_cons, List.takeWhile_cons]
      split
      · rw [ih, List.take_succ_cons]
      · simp
theorem runL_take (t : Bool) (l : Bs) (m : Nat) (h : runL t l ≤ m) : runL t (l.take m) = runL t l := by
  unfold runL at *; rw [takeWhile_take, List.take_of_length_le h]
theorem digL_take (l : Bs) (m : Nat) (h : digL l ≤ m) : digL (l.take m) = digL l := by
  unfold digL at *; rw [takeWhile_take, List.take_of_length_le h]
theorem tokenL_take (l : Bs) (m : Nat) (h0 : 0 < (tokenL l).2) (hm : (tokenL l).2 ≤ m) : tokenL (l.take m) = tokenL l := by
  rcases l with _ | ⟨c, r⟩
  · simp
  · rcases m with _ | m
    · omega
    · rw [List.take_succ_cons]
      simp only [tokenL] at h0 hm ⊢
      by_cases h1 : (smallB c.toNat || (c.toNat : Int) == 95) = true
      · simp only [if_pos h1] at h0 hm ⊢
        have e := runL_take true (c :: r) (m + 1) hm
        rw [List.take_succ_cons] at e
        rw [e, ← List.take_succ_cons, List.take_take, Nat.min_eq_left hm]
      · simp only [if_neg h1] at h0 hm ⊢
        by_cases h2 : greatB c.toNat = true
        · simp only [if_pos h2] at h0 hm ⊢
          have e := runL_take true (c :: r) (m + 1) hm
          rw [List.take_succ_cons] at e
          rw [e]
        · simp only [if_neg h2] at h0 hm ⊢
          by_cases h3 : digitB c.toNat = true
          · simp only [if_pos h3] at h0 hm ⊢
            rw [digL_take r m (by omega)]
          · simp only [if_neg h3] at h0 hm ⊢
            by_cases h4 : ((c.toNat : Int) == 39) = true
            · simp only [if_pos h4] at h0 hm ⊢
              rcases r with _ | ⟨d, r⟩
              · simp at h0
              · dsimp only at h0 hm ⊢
                by_cases h5 : smallB d.toNat = true
                · simp only [if_pos h5] at h0 hm ⊢
                  have hd : nm false d = true := by unfold nm nameB; simp [h5]
                  have hm1 : 1 + runL false (d :: r) ≤ m + 1 := hm
                  rw [runL_cons, if_pos hd] at hm1
                  obtain ⟨m, rfl⟩ : ∃ k, m = k + 1 := ⟨m - 1, by omega⟩
                  rw [List.take_succ_cons]
                  dsimp only
                  rw [if_pos h5]
                  have e := runL_take false (d :: r) (m + 1) (by rw [runL_cons, if_pos hd]; omega)
                  rw [List.take_succ_cons] at e
                  rw [e]
                · simp [if_neg h5] at h0
            · simp only [if_neg h4] at h0 hm ⊢
              by_cases h5 : 0 < signL (c :: r)
              · simp only [if_pos h5] at h0 hm ⊢
                have e : signL (c :: r.take m) = signL (c :: r) := by
                  rcases r with _ | ⟨d, r⟩
                  · simp
                  · rcases m with _ | m
                    · simp only [List.take_zero]
                      simp only [signL] at h5 hm ⊢
                      by_cases h6 : sign2B c.toNat d.toNat = true
                      · simp [if_pos h6] at hm
                      · simp only [if_neg h6]
                    · rw [List.take_succ_cons]; rfl
                rw [e, if_pos h5]
              · simp [if_neg h5] at h0

/-- The word of a token. -/
def wordOf (l : Bs) (t : Tk) : Bs := (l.drop t.2.1.toNat).take (t.2.2 - t.2.1).toNat

/-- A word that is just one token of this kind. -/
structure WordOk (k : Int) (u : Bs) : Prop where
  ne : u ≠ []
  tok : tokenL u = (k, u.length)
  white : ∀ c r, u = c :: r → whiteB c.toNat = false
  opens : ∀ r, opensL (u ++ 32 :: r) = false

theorem tok_kind_7 (l : Bs) : (tokenL l).1 ≠ 7 := by
  rcases l with _ | ⟨c, r⟩
  · simp [tokenL]
  · simp only [tokenL]
    split
    · simp only [wordKindL]; (repeat' split) <;> decide
    · split
      · simp
      · split
        · simp
        · split
          · rcases r with _ | ⟨d, r⟩
            · decide
            · dsimp only; split <;> simp
          · split <;> simp
theorem tok_white (c : UInt8) (r : Bs) (h : 0 < (tokenL (c :: r)).2) : whiteB c.toNat = false := by
  cases hw : whiteB c.toNat
  · rfl
  · exfalso
    simp [whiteB] at hw
    have hc : c = 32 ∨ c = 9 ∨ c = 10 ∨ c = 13 := by
      simp only [← UInt8.toNat_inj]
      rcases hw with ((h | h) | h) | h
      · left; simp; omega
      · right; left; simp; omega
      · right; right; left; simp; omega
      · right; right; right; simp; omega
    rcases hc with rfl | rfl | rfl | rfl <;> rcases r with _ | ⟨d, r⟩ <;> simp [tokenL, smallB, greatB, digitB, signL, sign1B, sign2B] at h
theorem wordOk_of (l : Bs) (k : Int) (z : Nat) (hz : 0 < z) (ht : tokenL l = (k, z)) (ho : opensL l = false) : WordOk k (l.take z) := by
  have hle : z ≤ l.length := by have := tokenL_le l; rw [ht] at this; exact this
  rcases l with _ | ⟨c, r⟩
  · simp at hle; omega
  · have hlen : ((c :: r).take z).length = z := by rw [List.length_take]; omega
    refine ⟨by intro e; rw [e] at hlen; simp at hlen; omega, ?_, ?_, ?_⟩
    · rw [tokenL_take _ _ (by rw [ht]; exact hz) (by rw [ht]; exact Nat.le_refl _), ht, hlen]
    · intro c' r' e
      obtain ⟨z, rfl⟩ : ∃ y, z = y + 1 := ⟨z - 1, by omega⟩
      rw [List.take_succ_cons] at e
      injection e with e _
      rw [← e]
      exact tok_white c r (by rw [ht]; exact hz)
    · intro x
      obtain ⟨z, rfl⟩ : ∃ y, z = y + 1 := ⟨z - 1, by omega⟩
      rw [List.take_succ_cons, opensL_blank]
      rcases r with _ | ⟨d, r⟩
      · simp [opensL]
      · rcases z with _ | z
        · simp [opensL]
        · rw [List.take_succ_cons]; exact ho

theorem words_ok (n : Nat) : ∀ (s : Bs) (k : Nat), s.length - k ≤ n → k ≤ s.length → ∀ t ∈ lx (s.drop k) k, t.1 ≠ 7 → WordOk t.1 (wordOf s t) ∧ ∃ f z : Nat, t.2.1 = f ∧ t.2.2 = f + z ∧ f + z ≤ s.length ∧ tokenL (s.drop f) = (t.1, z) ∧ 0 < z := by
  induction n with
  | zero =>
    intro s k hn hk t ht
    rw [List.drop_of_length_le (by omega), lx_nil] at ht
    simp at ht
  | succ n ih =>
    intro s k hn hk t ht h7
    by_cases hlt : k < s.length
    · have hdr := List.drop_eq_getElem_cons hlt
      cases hw : whiteB (s[k].toNat)
      · cases ho : opensL (s.drop k)
        · have ho' := ho
          rw [hdr] at ho'
          have hp := pieceL_pos (s.drop k)
          have hl := pieceL_le s[k] (s.drop (k + 1))
          rw [← hdr, List.length_drop] at hl
          rw [hdr, lx_piece _ _ _ hw ho', ← hdr] at ht
          rcases List.mem_cons.1 ht with rfl | ht
          · have hpt : pieceL (s.drop k) = tokenL (s.drop k) ∧ 0 < (tokenL (s.drop k)).2 := by
              unfold pieceL at h7 ⊢
              split
              · rename_i h; rw [if_pos h] at h7; exact absurd rfl h7
              · exact ⟨rfl, by omega⟩
            rw [hpt.1] at hl ⊢
            generalize hT : tokenL (s.drop k) = T at *
            obtain ⟨a, z⟩ := T
            simp only at hpt hl ⊢
            refine ⟨?_, k, z, rfl, rfl, by omega, hT, hpt.2⟩
            have := wordOk_of (s.drop k) a z hpt.2 hT ho
            unfold wordOf
            rw [show ((k : Int) + (z : Int) - (k : Int)).toNat = z by omega, Int.toNat_natCast]
            exact this
          · rw [List.drop_drop] at ht
            exact ih s _ (by omega) (by omega) t ht h7
        · cases hr : (remL (s.drop k) 0 0).2
          · have ho' := ho
            have hr' := hr
            rw [hdr] at ho' hr'
            rw [hdr, lx_open _ _ _ hw ho' hr'] at ht
            simp at ht
            rw [ht] at h7
            exact absurd rfl h7
          · have hp := remL_pos (s.drop k) ho 0 0
            have hl := (remL_ge (s.drop k) 0 0).2
            rw [List.length_drop] at hl
            have hlx : lx (s.drop k) k = lx (s.drop (k + (remL (s.drop k) 0 0).1)) (k + (remL (s.drop k) 0 0).1) := by
              rw [← List.drop_drop]
              rw [hdr] at ho hr ⊢
              exact lx_remark _ _ _ hw ho hr
            rw [hlx] at ht
            exact ih s _ (by omega) (by omega) t ht h7
      · rw [hdr, lx_white _ _ _ hw] at ht
        exact ih s _ (by omega) (by omega) t ht h7
    · exact ih s k (by omega) hk t ht h7
theorem lx_words (s : Bs) (t : Tk) (ht : t ∈ lx s 0) (h7 : t.1 ≠ 7) : WordOk t.1 (wordOf s t) ∧ ∃ f z : Nat, t.2.1 = f ∧ t.2.2 = f + z ∧ f + z ≤ s.length ∧ tokenL (s.drop f) = (t.1, z) ∧ 0 < z :=
  words_ok s.length s 0 (by omega) (Nat.zero_le _) t (by simpa using ht) h7

/-! ### Words, each with a blank behind it -/
def joined : List (Int × Bs) → Bs
  | [] => []
  | (_, u) :: r => u ++ 32 :: joined r
def again : List (Int × Bs) → Nat → List Tk
  | [], _ => []
  | (k, u) :: r, p => (k, (p : Int), ((p + u.length : Nat) : Int)) :: again r (p + u.length + 1)
theorem lx_joined (ps : List (Int × Bs)) : ∀ (p : Nat), (∀ x ∈ ps, WordOk x.1 x.2) → lx (joined ps) p = again ps p := by
  induction ps with
  | nil => intro p _; rfl
  | cons x ps ih =>
    intro p h
    obtain ⟨k, u⟩ := x
    obtain ⟨h1, h2, h3, h4⟩ := h (k, u) (List.mem_cons_self)
    simp only at h1 h2 h3 h4
    rw [joined, again]
    rcases u with _ | ⟨c, u⟩
    · exact absurd rfl h1
    · have hw := h3 c u rfl
      have ho := h4 (joined ps)
      have ht := tokenL_blank c u (joined ps)
      have hp : pieceL (c :: u ++ 32 :: joined ps) = (k, (c :: u).length) := by
        unfold pieceL
        rw [ht, h2, if_neg (by simp)]
      rw [List.cons_append] at ho hp ⊢
      rw [lx_piece _ _ _ hw ho, hp]
      congr 1
      rw [← List.cons_append, List.drop_append_of_le_length (Nat.le_refl _), List.drop_of_length_le (Nat.le_refl _), List.nil_append, lx_white _ _ _ (by decide)]
      exact ih _ (fun x hx => h x (List.mem_cons_of_mem _ hx))
theorem again_length (ps : List (Int × Bs)) : ∀ p, (again ps p).length = ps.length := by
  induction ps with
  | nil => intro p; rfl
  | cons x ps ih => intro p; obtain ⟨k, u⟩ := x; simp [again, ih]
theorem again_at (ps : List (Int × Bs)) : ∀ (pre : Bs) (i : Nat) (hi : i < ps.length), ∃ f : Nat, (again ps pre.length)[i]? = some (ps[i].1, (f : Int), ((f + ps[i].2.length : Nat) : Int)) ∧
    f + ps[i].2.length ≤ (pre ++ joined ps).length ∧ ((pre ++ joined ps).drop f).take ps[i].2.length = ps[i].2 := by
  induction ps with
  | nil => intro pre i hi; simp at hi
  | cons x ps ih =>
    intro pre i hi
    obtain ⟨k, u⟩ := x
    rcases i with _ | i
    · refine ⟨pre.length, by simp [again], ?_, ?_⟩
      · simp [joined]
      · simp [joined]
    · have hi' : i < ps.length := by simpa using hi
      obtain ⟨f, h1, h2, h3⟩ := ih (pre ++ u ++ [32]) i hi'
      have e : pre ++ joined ((k, u) :: ps) = pre ++ u ++ [32] ++ joined ps := by simp [joined]
      refine ⟨f, ?_, ?_, ?_⟩
      · rw [again]
        rw [show pre.length + u.length + 1 = (pre ++ u ++ [32]).length by simp; omega]
        simpa using h1
      · rw [e]; simpa using h2
      · rw [e]; simpa using h3

/-! ### The kind of a word -/
def kindL (u : Bs) : Int := if u = [] then 0 else if (tokenL u).2 = u.length then (tokenL u).1 else 0
theorem kind_long (l : Bs) (m : Nat) (h0 : 0 < (tokenL l).2) (hm : (tokenL l).2 < m) (hl : m ≤ l.length) : kindL (l.take m) = 0 := by
  unfold kindL
  rw [tokenL_take l m h0 (by omega), List.length_take, Nat.min_eq_left hl, if_neg (show ¬ (tokenL l).2 = m by omega)]
  split <;> rfl
theorem kind_word {k : Int} {u : Bs} (h : WordOk k u) : kindL u = k := by
  unfold kindL
  rw [if_neg h.ne, h.tok, if_pos rfl]
/-- The reference's way: the text's only token. -/
def kindR (u : Bs) : Int := match lx u 0 with
  | [t] => if t.2.1 = 0 ∧ t.2.2 = u.length ∧ t.1 ≠ 7 then t.1 else 0
  | _ => 0

theorem lexL_ge (n : Nat) : ∀ (l : Bs) (p : Nat), ∀ t ∈ lexL n l p, (p : Int) ≤ t.2.1 := by
  induction n with
  | zero => intro l p t ht; simp [lexL] at ht
  | succ n ih =>
    intro l p t ht
    rcases l with _ | ⟨c, r⟩
    · simp [lexL] at ht
    · unfold lexL at ht
      split at ht
      · have := ih _ _ t ht; omega
      · split at ht
        · split at ht
          · have := ih _ _ t ht; omega
          · simp at ht; rw [ht]; exact Int.le_refl _
        · rcases List.mem_cons.1 ht with rfl | ht
          · exact Int.le_refl _
          · have := ih _ _ t ht; omega
theorem lx_ge (l : Bs) (p : Nat) (t : Tk) (h : t ∈ lx l p) : (p : Int) ≤ t.2.1 := lexL_ge _ l p t h
theorem opens_tok1 (l : Bs) (h : opensL l = true) : (tokenL l).2 = 1 ∧ 2 ≤ l.length := by
  rcases l with _ | ⟨c, _ | ⟨d, r⟩⟩
  · simp [opensL] at h
  · simp [opensL] at h
  · simp [opensL] at h
    have hc : c = 40 := by rw [← UInt8.toNat_inj]; have := h.1; simp; omega
    have hd : d = 42 := by rw [← UInt8.toNat_inj]; have := h.2; simp; omega
    subst hc hd
    simp [tokenL, smallB, greatB, digitB, signL, sign1B, sign2B]
theorem kind_same (u : Bs) : kindR u = kindL u := by
  rcases u with _ | ⟨c, r⟩
  · simp [kindR, kindL, lx_nil]
  · by_cases hz : (tokenL (c :: r)).2 = (c :: r).length
    · have h0 : 0 < (tokenL (c :: r)).2 := by rw [hz]; simp
      have hw := tok_white c r h0
      have ho : opensL (c :: r) = false := by
        cases ho : opensL (c :: r)
        · rfl
        · have := opens_tok1 _ ho; omega
      have hp : pieceL (c :: r) = tokenL (c :: r) := by unfold pieceL; rw [if_neg (by omega)]
      have h7 := tok_kind_7 (c :: r)
      unfold kindR kindL
      rw [lx_piece _ _ _ hw ho, hp, hz, List.drop_of_length_le (Nat.le_refl _), lx_nil, if_neg (by simp), if_pos rfl]
      simp [h7]
    · unfold kindL
      rw [if_neg (by simp), if_neg hz]
      unfold kindR
      split
      · rename_i t ht
        rw [if_neg]
        rintro ⟨h1, h2, h3⟩
        have hmem : t ∈ lx (c :: r) 0 := by rw [ht]; simp
        cases hw : whiteB c.toNat
        · cases ho : opensL (c :: r)
          · rw [lx_piece _ _ _ hw ho] at ht
            injection ht with ht _
            rw [← ht] at h2 h3
            simp only at h2 h3
            unfold pieceL at h2 h3
            split at h3
            · exact h3 rfl
            · rename_i h; rw [if_neg h] at h2; omega
          · cases hr : (remL (c :: r) 0 0).2
            · rw [lx_open _ _ _ hw ho hr] at ht
              injection ht with ht _
              rw [← ht] at h3
              exact h3 rfl
            · rw [lx_remark _ _ _ hw ho hr] at hmem
              have := lx_ge _ _ _ hmem
              have := remL_pos (c :: r) ho 0 0
              omega
        · rw [lx_white _ _ _ hw] at hmem
          have := lx_ge _ _ _ hmem
          omega
      · rfl
end Go.Proofs.Ytafpbdmggnfdnaa

/- The contracts of lex.Word, lex.Kind, lex.Is. -/
namespace Go.Proofs.Ytafpbdmggnfdnaa
open Go.RowKit
set_option linter.unusedVariables false

def wordB (s : ByteArray) (f t : Int) : ByteArray := if f < 0 ∨ t < f ∨ (s.size : Int) < t then ⟨#[]⟩ else s.extract f.toNat t.toNat
def tokV (k f t : Int) : Value := .agg #[.int .i64 k, .int .i64 f, .int .i64 t]
abbrev tokBox (w : World) (k f t : Int) : World := w.alloc (.cells #[.int .i64 k, .int .i64 f, .int .i64 t] 122)

theorem ret_string {a b : ByteArray} (h : a = b) : Ending.returned (.string a) = .returned (.string b) := by rw [h]

set_option maxHeartbeats 1000000 in
theorem kind_any (u : ByteArray) (w : World) (hu : u.size ≤ 1000000) :
    Calls Try.prog 55 #[.string u] w fun e w' => e = .returned (.int .i64 (kindL u.toList)) ∧ w = w' := by
  have hsz := size_toList u
  by_cases he : u.toList = []
  · have h0 : u.toList.isEmpty = true := by rw [he]; rfl
    go_enter Try.func55, Try.ntmps55
    go_wp2
    go_ret
    exact ⟨ret_int (by unfold kindL; rw [if_pos he]), rfl⟩
  · have h0 : u.toList.isEmpty = false := by simpa using he
    have hpos : 0 < u.size := by rw [← hsz]; exact List.length_pos_iff.2 he
    have HK : Hid (kindL u.toList = if (tokenL u.toList).2 = u.size then (tokenL u.toList).1 else 0) := hide (by unfold kindL; rw [if_neg he, hsz])
    have HT := hide (token_any u 0)
    rw [Int.toNat_zero, List.drop_zero] at HT
    clear he hsz
    generalize tokenL u.toList = T at *
    generalize kindL u.toList = K at *
    obtain ⟨k, z⟩ := T
    by_cases hz : z = u.size
    · subst hz
      rw [if_pos rfl] at HK
      have hne : ((u.size : Int) != (u.size : Int)) = false := by simp
      go_enter Try.func55, Try.ntmps55
      go_wp2_with (go_at_call 65; refine (HT.out _ (by omega) (by omega) hu).mono ?_; rintro e w' ⟨rfl, rfl⟩)
      go_ret
      exact ⟨ret_int HK.out.symm, rfl⟩
    · rw [if_neg hz] at HK
      have hne : ((z : Int) != (u.size : Int)) = true := by simp; omega
      go_enter Try.func55, Try.ntmps55
      go_wp2_with (go_at_call 65; refine (HT.out _ (by omega) (by omega) hu).mono ?_; rintro e w' ⟨rfl, rfl⟩)
      go_ret
      exact ⟨ret_int HK.out.symm, rfl⟩

/-- Is it this word of the language? -/
def isB (s : ByteArray) (k f t : Int) (u : ByteArray) : Bool := (k == 5 || k == 6) && (wordB s f t).toList == u.toList
end Go.Proofs.Ytafpbdmggnfdnaa

/- The program's store: Clone, Var, Con, Pair, Arrow. -/
namespace Go.Proofs.Ytafpbdmggnfdnaa
open Go.RowKit
set_option linter.unusedVariables false

theorem ints_of_own {w : World} {base : Nat} {e : TypeId} {v : Value} {xs : List Int} (h : w.ownsRow base e 1 v xs.length (xs.map (Value.int .i64))) :
    ∃ A c, v = .slice A xs.length c ∧ Ints w A xs ∧ (∀ x, A = some x → base ≤ x.block ∧ x.block < w.heap.size) := by
  rcases h.2 with ⟨h1, h2⟩ | ⟨g, cap, cur, h1, h2, h3, h4, h5⟩
  · refine ⟨none, 0, by rw [h1, h2], fun hne => absurd (List.eq_nil_of_length_eq_zero h2) hne, fun x hx => by cases hx⟩
  · have hg : g < w.heap.size := (Array.getElem?_eq_some_iff.1 h3).1
    refine ⟨_, cap, h1, fun hne => ⟨g, 0, rfl, hg, fun k x hk => ?_⟩, fun x hx => ?_⟩
    · have := h.cells (g := g) (by rw [h1]; rfl) k (.int .i64 x) (by rw [List.getElem?_map, hk]; rfl)
      rcases Nat.eq_zero_or_pos k with rfl | hp
      · simpa [Addr.add] using this
      · simpa [Addr.add, show ¬ k = 0 by omega] using this
    · injection hx with hx; subst hx; exact ⟨h2, hg⟩

/-- A new slice of these integers. -/
def NewInts (w : World) (xs : List Int) (e : Ending) (w' : World) : Prop :=
  ∃ A c, e = .returned (.slice A xs.length c) ∧ Ints w' A xs ∧ (∀ x, A = some x → w.heap.size ≤ x.block ∧ x.block < w'.heap.size) ∧ Below w.heap.size w w'
theorem addr_add' (b off j : Nat) : (⟨b, off, none⟩ : Addr).add j = ⟨b, off + j, none⟩ := by
  rcases Nat.eq_zero_or_pos j with rfl | hp
  · simp [Addr.add]
  · simp [Addr.add, show ¬ j = 0 by omega]
theorem ints_cells {w : World} {a : Addr} {xs : List Int} (h : Ints w (some a) xs) (t : TypeId) : ∀ (j : Nat) (u : Value), (xs.map (Value.int .i64))[j]? = some u → (w.alloc (.cells #[] t)).cell? (a.add j) = some u := by
  intro j u hu
  rw [List.getElem?_map] at hu
  obtain ⟨x, hx, hxu⟩ := Option.map_eq_some_iff.1 hu
  have hne : xs ≠ [] := by rintro rfl; simp at hx
  obtain ⟨b, off, e, hb, hcc⟩ := h hne
  obtain rfl : a = ⟨b, off, none⟩ := by injection e
  rw [addr_add', World.cell?_alloc_lt w _ _ hb, ← hxu]
  exact hcc j x hx
set_option maxHeartbeats 1000000 in
theorem clone_any (A : Option Addr) (c : Nat) (xs : List Int) (w : World) (h : Ints w A xs) (hl : xs.length ≤ 1000000) : Calls Try.prog 51 #[.slice A xs.length c] w (NewInts w xs) := by
  obtain ⟨i1, ki, kz0, kz1, kz2⟩ := info_parts intInfo
  have q : ∀ (W : World) (a : Option Addr) (n c n' c' : Nat), (binOp .eql 30 (.slice a n c) (.slice none n' c')).run Try.prog W = .ok (.bool a.isNone) W := fun W a n c n' c' => Lib.run_eql_slice_nil W _ _ a n c n' c' Try.underlying30
  rcases A with _ | a
  · have hx : xs = [] := by
      rcases xs with _ | ⟨x, xs⟩
      · rfl
      · obtain ⟨b, off, e, _⟩ := h (by simp); cases e
    subst hx
    go_enter Try.func51, Try.ntmps51
    go_wp2
    go_ret
    exact ⟨none, 0, rfl, h, (fun x hx => by cases hx), Below.refl _ _⟩
  · have hc := ints_cells h 3
    have HC := hide hc; clear hc
    have Ki := hide ki; have Kz0 := hide kz0; have Kz1 := hide kz1; have Kz2 := hide kz2
    clear ki kz0 kz1 kz2
    have HO := hide (World.ownsRow_made (base := w.heap.size) (e := 3) (size := 1) w #[] 0 (Nat.le_refl _) (Nat.zero_le _) rfl)
    have H1 : Hid (∀ u ∈ xs.map (Value.int .i64), u.oneCell' = true) := hide (ints_oneCell .i64 xs)
    go_enter Try.func51, Try.ntmps51
    go_wp2_with (at_builtin; refine wpList_append_own _ rfl (.tmp 5) (.tmp 6) 30 rfl w.heap.size 3 i1 (.int .i64 0) 1 8 Try.underlying30 Ki.out Kz0.out Kz1.out Kz2.out rfl (by decide) (.slice (some ⟨w.heap.size, 0, none⟩) 0 0) 0 [] rfl HO.out a xs.length c (xs.map (Value.int .i64)) rfl (by simp) HC.out H1.out (by unfold maxLen; omega) (by omega) (by simp) ?_; intro v' w1 hown hgrow hnil)
    go_ret
    simp only [Nat.zero_add, List.nil_append] at hown
    obtain ⟨A', c', rfl, hI, hB⟩ := ints_of_own hown
    exact ⟨A', c', rfl, hI, hB, ((Below.refl w.heap.size w).alloc (Nat.le_refl _) _).grown hgrow (by simp) (by intro k hk; simp [Value.ownBlock] at hk; omega)⟩

theorem cast_toNat {n : Nat} {xs : List Int} (h : allIn n xs = true) : cast (xs.map Int.toNat) = xs ∧ ∀ a ∈ xs.map Int.toNat, a < n := by
  unfold allIn at h
  rw [List.all_eq_true] at h
  refine ⟨?_, fun a ha => ?_⟩
  · unfold cast
    rw [List.map_map]
    conv => rhs; rw [← List.map_id xs]
    refine List.map_congr_left fun x hx => ?_
    have := h x hx
    simp at this ⊢; omega
  · obtain ⟨x, hx, rfl⟩ := List.mem_map.1 ha
    have := h x hx
    simp at this; omega

/-- A node more, and no error. -/
def MadePost (w : World) (base : Nat) (L : Lay) (S : PS) (p : Nd) (e : Ending) (w' : World) : Prop :=
  e = .returned (.tuple #[.int .i64 (S.nodes.length : Int), .int .i64 0]) ∧ ∃ L', St w' base L' (S.add p) ∧ L'.g = L.g ∧ Only L.fp w w' ∧ (∀ b, L'.fp b → L.fp b ∨ w.heap.size ≤ b) ∧ ∀ (i : Nat) (a : Option Addr × Nat), L'.ad[i]? = some a → L.ad[i]? = some a ∨ ∀ x, a.1 = some x → w.heap.size ≤ x.block
theorem AddPost.made {w w1 w' : World} {base : Nat} {L : Lay} {S : PS} {p : Nd} {A : Option Addr} {e : Ending} (h : AddPost w1 base L S p A e w') (hb : Below w.heap.size w w1) (hA : ∀ x, A = some x → w.heap.size ≤ x.block) : MadePost w base L S p (.returned (.tuple #[.int .i64 (S.nodes.length : Int), .int .i64 0])) w' := by
  obtain ⟨_, L', h1, h2, h3, h4, h5⟩ := h
  exact ⟨rfl, L', h1, h2, (Only.of_below hb _).trans h3, fun b hb' => (h4 b hb').imp id fun h5 => Nat.le_trans hb.size h5, fun i a ha => (h5 i a ha).imp id fun (e : a.1 = A) x hx => hA x (by rw [← e]; exact hx)⟩

def varNd : Nd := ⟨1, ByteArray.empty, []⟩
theorem var_any {w : World} {base : Nat} {L : Lay} {S : PS} (h : St w base L S) (hm : S.nodes.length + 1 ≤ 1000000) :
    Calls Try.prog 26 #[.pointer (some ⟨L.g, 0, none⟩)] w (AddPost w base L S varNd none) := by
  have HA := hide (add_any h varNd none 0 (fun h => absurd rfl h) (fun _ e => by cases e) (fun _ e => by cases e) hm (by decide))
  go_enter Try.func26, Try.ntmps26
  go_wp2_with fail
  refine (HA.out).mono ?_
  rintro e w1 ⟨rfl, hx⟩
  have HX := hide hx; clear hx
  go_wp2
  go_ret
  exact ⟨rfl, HX.out⟩

set_option maxHeartbeats 1000000 in
theorem con_any {w : World} {base : Nat} {L : Lay} {S : PS} (h : St w base L S) (name : ByteArray) (A : Option Addr) (c : Nat) (xs : List Int) (hx : Ints w A xs) (hl : xs.length ≤ 1000000) (hs : name.size ≤ 1000000) (hk : allIn S.nodes.length xs = true) (hq : kindL name.toList = 1) (hm : S.nodes.length + 1 ≤ 1000000) :
    Calls Try.prog 30 #[.pointer (some ⟨L.g, 0, none⟩), .string name, .slice A xs.length c] w (MadePost w base L S ⟨2, name, xs.map Int.toNat⟩) := by
  have HK := hide (known_any h A c xs hx hl)
  have HQ := hide (fun W => kind_any name W hs)
  have HC := hide (clone_any A c xs w hx hl)
  rw [hk] at HK; rw [hq] at HQ
  have hcast := hide (cast_toNat hk).1
  have hlen : (xs.map Int.toNat).length = xs.length := by simp
  have Hlen := hide hlen
  clear hk hq hlen
  go_enter Try.func30, Try.ntmps30
  go_wp2_with fail
  refine HK.out.mono ?_
  rintro e w1 ⟨rfl, rfl⟩
  go_wp2_with fail
  refine (HQ.out _).mono ?_
  rintro e w1 ⟨rfl, rfl⟩
  go_wp2_with fail
  refine HC.out.mono ?_
  rintro e w1 ⟨A1, c1, rfl, hI, hB, hb⟩
  have HA := hide (add_any (h.later hb) ⟨2, name, xs.map Int.toNat⟩ A1 c1 (by unfold Nats; simp only; rw [hcast.out]; exact hI) (fun x e hf => by have := (h.fp_lt _ hf).2; have := (hB x e).1; omega) (fun x e => (hB x e).2) hm (by simp only; rw [Hlen.out]; exact hl))
  simp only [Hlen.out] at HA
  go_wp2_with fail
  refine HA.out.mono ?_
  intro e w2 hp
  have HP := hide (hp.made hb (fun x e => (hB x e).1))
  obtain ⟨rfl, _⟩ := hp
  go_wp2
  go_ret2
  exact HP.out

set_option maxHeartbeats 1000000 in
theorem con_no {w : World} {base : Nat} {L : Lay} {S : PS} (h : St w base L S) (name : ByteArray) (A : Option Addr) (c : Nat) (xs : List Int) (hx : Ints w A xs) (hl : xs.length ≤ 1000000) (hk : allIn S.nodes.length xs = false) :
    Calls Try.prog 30 #[.pointer (some ⟨L.g, 0, none⟩), .string name, .slice A xs.length c] w fun e w' => e = .returned (.tuple #[.int .i64 0, .int .i64 221]) ∧ w = w' := by
  have HK := hide (known_any h A c xs hx hl)
  rw [hk] at HK
  clear hk
  go_enter Try.func30, Try.ntmps30
  go_wp2_with fail
  refine HK.out.mono ?_
  rintro e w1 ⟨rfl, rfl⟩
  go_wp2
  go_ret2
  exact ⟨rfl, rfl⟩
set_option maxHeartbeats 1000000 in
theorem con_bad {w : World} {base : Nat} {L : Lay} {S : PS} (h : St w base L S) (name : ByteArray) (A : Option Addr) (c : Nat) (xs : List Int) (hx : Ints w A xs) (hl : xs.length ≤ 1000000) (hs : name.size ≤ 1000000) (hk : allIn S.nodes.length xs = true) (hq : kindL name.toList ≠ 1) :
    Calls Try.prog 30 #[.pointer (some ⟨L.g, 0, none⟩), .string name, .slice A xs.length c] w fun e w' => e = .returned (.tuple #[.int .i64 0, .int .i64 120]) ∧ w = w' := by
  have HK := hide (known_any h A c xs hx hl)
  have HQ := hide (fun W => kind_any name W hs)
  rw [hk] at HK
  clear hk
  generalize kindL name.toList = K at *
  have hne : (K != 1) = true := by simpa using hq
  clear hq
  go_enter Try.func30, Try.ntmps30
  go_wp2_with fail
  refine HK.out.mono ?_
  rintro e w1 ⟨rfl, rfl⟩
  go_wp2_with fail
  refine (HQ.out _).mono ?_
  rintro e w1 ⟨rfl, rfl⟩
  go_wp2
  go_ret2
  exact ⟨rfl, rfl⟩

set_option maxHeartbeats 1000000 in
theorem pair_any {w : World} {base : Nat} {L : Lay} {S : PS} (h : St w base L S) (A : Option Addr) (c : Nat) (xs : List Int) (hx : Ints w A xs) (hl : xs.length ≤ 1000000) (hk : allIn S.nodes.length xs = true) (hq : 2 ≤ xs.length) (hm : S.nodes.length + 1 ≤ 1000000) :
    Calls Try.prog 27 #[.pointer (some ⟨L.g, 0, none⟩), .slice A xs.length c] w (MadePost w base L S ⟨3, ByteArray.empty, xs.map Int.toNat⟩) := by
  have HK := hide (known_any h A c xs hx hl)
  have HC := hide (clone_any A c xs w hx hl)
  rw [hk] at HK
  have hcast := hide (cast_toNat hk).1
  have hlen : (xs.map Int.toNat).length = xs.length := by simp
  have Hlen := hide hlen
  have d2 : decide ((xs.length : Int) < 2) = false := by simp; omega
  clear hk hlen
  go_enter Try.func27, Try.ntmps27
  go_wp2_with fail
  refine HK.out.mono ?_
  rintro e w1 ⟨rfl, rfl⟩
  go_wp2_with fail
  refine HC.out.mono ?_
  rintro e w1 ⟨A1, c1, rfl, hI, hB, hb⟩
  have HA := hide (add_any (h.later hb) ⟨3, ByteArray.empty, xs.map Int.toNat⟩ A1 c1 (by unfold Nats; simp only; rw [hcast.out]; exact hI) (fun x e hf => by have := (h.fp_lt _ hf).2; have := (hB x e).1; omega) (fun x e => (hB x e).2) hm (by simp only; rw [Hlen.out]; exact hl))
  simp only [Hlen.out] at HA
  go_wp2_with fail
  refine HA.out.mono ?_
  intro e w2 hp
  have HP := hide (hp.made hb (fun x e => (hB x e).1))
  obtain ⟨rfl, _⟩ := hp
  go_wp2
  go_ret2
  exact HP.out
set_option maxHeartbeats 1000000 in
theorem pair_no {w : World} {base : Nat} {L : Lay} {S : PS} (h : St w base L S) (A : Option Addr) (c : Nat) (xs : List Int) (hx : Ints w A xs) (hl : xs.length ≤ 1000000) (hk : allIn S.nodes.length xs = false) :
    Calls Try.prog 27 #[.pointer (some ⟨L.g, 0, none⟩), .slice A xs.length c] w fun e w' => e = .returned (.tuple #[.int .i64 0, .int .i64 221]) ∧ w = w' := by
  have HK := hide (known_any h A c xs hx hl)
  rw [hk] at HK
  clear hk
  go_enter Try.func27, Try.ntmps27
  go_wp2_with fail
  refine HK.out.mono ?_
  rintro e w1 ⟨rfl, rfl⟩
  go_wp2
  go_ret2
  exact ⟨rfl, rfl⟩
set_option maxHeartbeats 1000000 in
theorem pair_bad {w : World} {base : Nat} {L : Lay} {S : PS} (h : St w base L S) (A : Option Addr) (c : Nat) (xs : List Int) (hx : Ints w A xs) (hl : xs.length ≤ 1000000) (hk : allIn S.nodes.length xs = true) (hq : xs.length < 2) :
    Calls Try.prog 27 #[.pointer (some ⟨L.g, 0, none⟩), .slice A xs.length c] w fun e w' => e = .returned (.tuple #[.int .i64 0, .int .i64 120]) ∧ w = w' := by
  have HK := hide (known_any h A c xs hx hl)
  rw [hk] at HK
  have d2 : decide ((xs.length : Int) < 2) = true := by simp; omega
  clear hk
  go_enter Try.func27, Try.ntmps27
  go_wp2_with fail
  refine HK.out.mono ?_
  rintro e w1 ⟨rfl, rfl⟩
  go_wp2
  go_ret2
  exact ⟨rfl, rfl⟩

/-- Two integers that lie in a new block. -/
theorem ints_two (w : World) (a b : Int) (t : TypeId) : Ints (w.alloc (.cells #[.int .i64 a, .int .i64 b] t)) (some ⟨w.heap.size, 0, none⟩) [a, b] := by
  intro _
  refine ⟨w.heap.size, 0, rfl, by simp, fun k x hk => ?_⟩
  rw [cell_of_row _ _ _ _ _ _ (heap_alloc_new w _)]
  match k with
  | 0 => simp at hk ⊢; exact hk
  | 1 => simp at hk ⊢; exact hk
  | k + 2 => simp at hk
theorem ints_one (w : World) (a : Int) (t : TypeId) : Ints (w.alloc (.cells #[.int .i64 a] t)) (some ⟨w.heap.size, 0, none⟩) [a] := by
  intro _
  refine ⟨w.heap.size, 0, rfl, by simp, fun k x hk => ?_⟩
  rw [cell_of_row _ _ _ _ _ _ (heap_alloc_new w _)]
  match k with
  | 0 => simp at hk ⊢; exact hk
  | k + 1 => simp at hk
set_option maxHeartbeats 1000000 in
theorem arrow_any {w : World} {base : Nat} {L : Lay} {S : PS} (h : St w base L S) (a b : Int) (hk : allIn S.nodes.length [a, b] = true) (hm : S.nodes.length + 1 ≤ 1000000) :
    Calls Try.prog 31 #[.pointer (some ⟨L.g, 0, none⟩), .int .i64 a, .int .i64 b] w (MadePost w base L S ⟨4, ByteArray.empty, [a.toNat, b.toNat]⟩) := by
  have hb1 : Below w.heap.size w (w.alloc (.cells #[.int .i64 a, .int .i64 b] 3)) := (Below.refl _ _).alloc (Nat.le_refl _) _
  have hb2 : Below w.heap.size w ((w.alloc (.cells #[.int .i64 a, .int .i64 b] 3)).alloc (.cells #[.int .i64 a, .int .i64 b] 3)) := hb1.alloc (by simp) _
  have HK := hide (known_any (h.later hb1) (some ⟨w.heap.size, 0, none⟩) 2 [a, b] (ints_two w a b _) (by simp))
  rw [hk] at HK
  have hcast := (cast_toNat hk).1
  have hI := ints_two (w.alloc (.cells #[.int .i64 a, .int .i64 b] 3)) a b 3
  rw [World.size_alloc] at hI
  have hbk : ∀ x : Addr, some (⟨w.heap.size + 1, 0, none⟩ : Addr) = some x → x.block = w.heap.size + 1 := fun x e => by injection e with e; rw [← e]
  have HA := hide (add_any (h.later hb2) ⟨4, ByteArray.empty, [a.toNat, b.toNat]⟩ (some ⟨w.heap.size + 1, 0, none⟩) 2 (by unfold Nats; simp only; rw [show [a.toNat, b.toNat] = [a, b].map Int.toNat from rfl, hcast]; exact hI) (fun x e hf => by have := (h.fp_lt _ hf).2; have := hbk x e; omega) (fun x e => by have := hbk x e; simp; omega) hm (by simp))
  have HB := hide hb2
  clear hk hb1 hb2 hcast hI hbk
  go_enter Try.func31, Try.ntmps31
  go_wp2_with fail
  refine HK.out.mono ?_
  rintro e w1 ⟨rfl, rfl⟩
  go_wp2_with fail
  refine HA.out.mono ?_
  intro e w2 hp
  have HP := hide (hp.made HB.out (fun x e => by injection e with e; rw [← e]; simp))
  obtain ⟨rfl, _⟩ := hp
  go_wp2
  go_ret2
  exact HP.out
set_option maxHeartbeats 1000000 in
theorem arrow_no {w : World} {base : Nat} {L : Lay} {S : PS} (h : St w base L S) (a b : Int) (hk : allIn S.nodes.length [a, b] = false) :
    Calls Try.prog 31 #[.pointer (some ⟨L.g, 0, none⟩), .int .i64 a, .int .i64 b] w fun e w' => e = .returned (.tuple #[.int .i64 0, .int .i64 221]) ∧ Below w.heap.size w w' := by
  have hb1 : Below w.heap.size w (w.alloc (.cells #[.int .i64 a, .int .i64 b] 3)) := (Below.refl _ _).alloc (Nat.le_refl _) _
  have HK := hide (known_any (h.later hb1) (some ⟨w.heap.size, 0, none⟩) 2 [a, b] (ints_two w a b _) (by simp))
  rw [hk] at HK
  clear hk hb1
  go_enter Try.func31, Try.ntmps31
  go_wp2_with fail
  refine HK.out.mono ?_
  rintro e w1 ⟨rfl, rfl⟩
  go_wp2
  go_ret2
  exact ⟨rfl, (Below.refl _ _).alloc (Nat.le_refl _) _⟩
end Go.Proofs.Ytafpbdmggnfdnaa

/- The program's store: form. -/
namespace Go.Proofs.Ytafpbdmggnfdnaa
open Go.RowKit
set_option linter.unusedVariables false

theorem ndCells_at (N : List Nd) (ad : List (Option Addr × Nat)) (f : Nat) (p : Nd) (a : Option Addr × Nat) (hp : N[f]? = some p) (ha : ad[f]? = some a) :
    (ndCells N ad)[f * 3]? = some (.int .i64 p.kind) ∧ (ndCells N ad)[f * 3 + 1]? = some (.string p.name) ∧ (ndCells N ad)[f * 3 + 2]? = some (.slice a.1 p.args.length a.2) := by
  induction N generalizing ad f with
  | nil => simp at hp
  | cons q N ih =>
    rcases ad with _ | ⟨b, ad⟩
    · simp at ha
    · rcases f with _ | f
      · simp at hp ha; subst hp; subst ha; simp [ndCells, ndCell]
      · simp at hp ha
        obtain ⟨h1, h2, h3⟩ := ih ad f hp ha
        have e : ∀ j, (ndCells (q :: N) (b :: ad))[j + 3]? = (ndCells N ad)[j]? := by
          intro j; simp only [ndCells, List.zip_cons_cons, List.flatMap_cons, ndCell]; simp
        exact ⟨by rw [show (f + 1) * 3 = f * 3 + 3 by omega, e]; exact h1, by rw [show (f + 1) * 3 + 1 = f * 3 + 1 + 3 by omega, e]; exact h2, by rw [show (f + 1) * 3 + 2 = f * 3 + 2 + 3 by omega, e]; exact h3⟩
theorem St.node {w : World} {base : Nat} {L : Lay} {S : PS} (h : St w base L S) {f : Nat} (hf : f < S.nodes.length) {bn cn m : Nat} (hv : L.vn = .slice (some ⟨bn, 0, none⟩) m cn) :
    ∃ p a, S.nodes[f]? = some p ∧ L.ad[f]? = some a ∧ w.cell? ⟨bn, f * 3, none⟩ = some (.int .i64 p.kind) ∧ w.cell? ⟨bn, f * 3 + 1, none⟩ = some (.string p.name) ∧ w.cell? ⟨bn, f * 3 + 2, none⟩ = some (.slice a.1 p.args.length a.2) := by
  have hp : S.nodes[f]? = some S.nodes[f] := List.getElem?_eq_getElem hf
  have ha : L.ad[f]? = some (L.ad[f]'(by rw [h.ad]; exact hf)) := List.getElem?_eq_getElem _
  obtain ⟨h1, h2, h3⟩ := ndCells_at _ _ f _ _ hp ha
  have c : ∀ j u, (ndCells S.nodes L.ad)[j]? = some u → w.cell? ⟨bn, j, none⟩ = some u := by
    intro j u hu
    have := h.nodes.cells (g := bn) (by rw [hv]; rfl) j u hu
    rwa [addr_add', Nat.zero_add] at this
  exact ⟨_, _, hp, ha, c _ _ h1, c _ _ h2, c _ _ h3⟩

theorem nd_kind (a b c : Value) (w : World) : (Instr.field 73 (.agg #[a, b, c]) 0).run Try.prog w = .ok a w := by kernel_rfl
theorem nd_name (a b c : Value) (w : World) : (Instr.field 73 (.agg #[a, b, c]) 1).run Try.prog w = .ok b w := by kernel_rfl
theorem nd_args (a b c : Value) (w : World) : (Instr.field 73 (.agg #[a, b, c]) 2).run Try.prog w = .ok c w := by kernel_rfl
/-- What form returns: the node f. -/
def FormIs (w : World) (L : Lay) (p : Nd) (f : Nat) (e : Ending) (w' : World) : Prop :=
  ∃ a, L.ad[f]? = some a ∧ e = .returned (.agg #[.int .i64 p.kind, .string p.name, .slice a.1 p.args.length a.2]) ∧ Below w.heap.size w w'
set_option maxRecDepth 100000 in
set_option maxHeartbeats 2000000 in
theorem form_any {w : World} {base : Nat} {L : Lay} {S : PS} {c d : Nat → Nat} (h : St w base L S) (hf : Forest S.nodes.length (par S.above) c d) (i : Nat) (hi : i < S.nodes.length) (p : Nd) (hp : S.nodes[par S.forms (c i)]? = some p) :
    Calls Try.prog 38 #[.pointer (some ⟨L.g, 0, none⟩), .int .i64 (i : Int)] w (FormIs w L p (par S.forms (c i))) := by
  obtain ⟨bf, cf, hvf, hcf⟩ := own_pos h.forms (by omega)
  obtain ⟨bn, cn, hvn, hcn⟩ := own_pos h.nodes (by omega)
  have hg := h.gcell.2.2.2
  have hg0 := h.gcell.1
  have hm := h.many
  have hr := hf.top i hi
  have HF := hide (fun W (hW : St W base L S) => find_any hW hf i hi)
  obtain ⟨r, hrr⟩ : ∃ r, c i = r := ⟨_, rfl⟩
  rw [hrr] at hr HF hp ⊢
  have hrn := hr.1
  have hlf := h.lf
  have c1 := own_nat h.forms hvf r (by omega)
  rw [par_at (by omega)] at c1
  have hfn : par S.forms r < S.nodes.length := (List.getElem?_eq_some_iff.1 hp).1
  obtain ⟨f, hff⟩ : ∃ f, par S.forms r = f := ⟨_, rfl⟩
  rw [hff] at c1 hfn hp ⊢
  obtain ⟨p', a, hp', ha, n0, n1, n2⟩ := h.node hfn hvn
  obtain rfl : p = p' := by rw [hp] at hp'; injection hp'
  rw [hvf] at hg
  rw [hvn] at hg0
  have HH := hide h
  have HFp := hide hf
  have Ha := hide ha
  have gl := h.glt
  have nlt : bn < w.heap.size := (h.nodes.lt bn (by rw [hvn]; rfl)).2
  have flt : bf < w.heap.size := (h.forms.lt bf (by rw [hvf]; rfl)).2
  clear hr hrr hff hp hp' hvf hvn h hf ha hlf
  go_enter Try.func38, Try.ntmps38
  go_wp2
  go_region_held3 (fun w' => w'.cell? ⟨L.g, 0, none⟩ = some (.slice (some ⟨bn, 0, none⟩) S.nodes.length cn) ∧ w'.cell? ⟨L.g, 3, none⟩ = some (.slice (some ⟨bf, 0, none⟩) S.nodes.length cf) ∧ w'.cell? ⟨bf, r, none⟩ = some (.int .i64 (f : Int)) ∧ w'.cell? ⟨bn, f * 3, none⟩ = some (.int .i64 p.kind) ∧ w'.cell? ⟨bn, f * 3 + 1, none⟩ = some (.string p.name) ∧ w'.cell? ⟨bn, f * 3 + 2, none⟩ = some (.slice a.1 p.args.length a.2)) (go_keep)
    (first | (go_at_call 59; refine (HF.out _ (HH.out.later (by first | exact (Below.refl _ _).alloc (Nat.le_refl _) _ | exact ((Below.refl _ _).alloc (Nat.le_refl _) _).drew))).mono ?_; rintro e w' ⟨rfl, rfl⟩))
  go_wp2
  refine bodyPost_ret (v := .agg #[.int .i64 p.kind, .string p.name, .slice a.1 p.args.length a.2]) (by simp [results, Try.results38, go_sem]) rfl ⟨a, Ha.out, rfl, ((Below.refl _ _).alloc (Nat.le_refl _) _).drew⟩
end Go.Proofs.Ytafpbdmggnfdnaa

/- The program's store: put. -/
namespace Go.Proofs.Ytafpbdmggnfdnaa
open Go.RowKit
set_option linter.unusedVariables false

theorem nats_set (l : List Nat) (i n : Nat) : nats (l.set i n) = (nats l).set i (.int .i64 (n : Int)) := by simp [nats, List.map_set]
section
variable {w : World} {base : Nat} {L : Lay} {S : PS}
theorem St.free (h : St w base L S) {v : Value} (hv : v = L.vn ∨ v = L.va ∨ v = L.vr ∨ v = L.vf) {b m cap : Nat} (e : v = .slice (some ⟨b, 0, none⟩) m cap) (j : Nat) : w.frozen? ⟨b, j, none⟩ = false := by
  have key : ∀ {t size n : Nat} {xs : List Value}, w.ownsRow base t size v n xs → w.frozen? ⟨b, j, none⟩ = false := by
    intro t size n xs ho
    rcases ho.2 with ⟨h1, _⟩ | ⟨g, cap', cur, h1, _, h3, _⟩
    · rw [e] at h1; cases h1
    · rw [e] at h1
      injection h1 with h1 _ _
      injection h1 with h1
      injection h1 with h1
      subst h1
      simp [World.frozen?, h3]
  rcases hv with e1 | e1 | e1 | e1
  · exact key (e1 ▸ h.nodes)
  · exact key (e1 ▸ h.above)
  · exact key (e1 ▸ h.ranks)
  · exact key (e1 ▸ h.forms)
/-- A store into one of the rows of numbers. -/
theorem St.set_above (h : St w base L S) {b m cap : Nat} (hv : L.va = .slice (some ⟨b, 0, none⟩) m cap) (i n : Nat) : St (w.setCell ⟨b, i, none⟩ (.int .i64 (n : Int))) base L { S with above := S.above.set i n } := by
  obtain ⟨A', c', e1, _, _⟩ := own_len h.above
  have hm : m = S.nodes.length := by rw [hv] at e1; injection e1
  subst hm
  have hb : L.va.ownBlock = some b := by rw [hv]; rfl
  have ho := h.above
  rw [hv] at ho
  have ho' := ho.stored i (.int .i64 (n : Int))
  rw [← nats_set] at ho'
  have hne : ∀ v : Value, v.ownBlock ≠ some b → ∀ k, v.ownBlock = some k → (w.setCell ⟨b, i, none⟩ (.int .i64 (n : Int))).heap[k]? = w.heap[k]? := fun v hvb k hk => Below.heap_setCell w _ _ k (by rintro rfl; exact hvb hk)
  have hon : Only (fun k => k = b) w (w.setCell ⟨b, i, none⟩ (.int .i64 (n : Int))) := (Only.refl (fun k => k = b) w).setCell (p := ⟨b, i, none⟩) (.inl rfl) _
  refine ⟨(Below.heap_setCell w _ _ L.g (by rintro e; exact own_blk h.above h.blk (by decide) (by rw [hb, e]))).trans h.blk, h.low, own_keep h.nodes (hne _ (own_ne h.above h.nodes (by decide) b hb)), by rw [hv]; exact ho'.1, own_keep h.ranks (hne _ (h.ar b hb)), own_keep h.forms (hne _ (h.af b hb)), h.ar, h.af, h.rf, h.ad, fun k p a hk ha => ?_, h.many, h.few⟩
  obtain ⟨g1, g2⟩ := h.args k p a hk ha
  exact ⟨Ints.only g1 hon fun x e e' => (g2 x e).2 (.inr (.inr (.inl (by rw [hb, e'])))), fun x e => ⟨Nat.lt_of_lt_of_le (g2 x e).1 hon.size, (g2 x e).2⟩⟩
theorem St.set_ranks (h : St w base L S) {b m cap : Nat} (hv : L.vr = .slice (some ⟨b, 0, none⟩) m cap) (i n : Nat) : St (w.setCell ⟨b, i, none⟩ (.int .i64 (n : Int))) base L { S with ranks := S.ranks.set i n } := by
  obtain ⟨A', c', e1, _, _⟩ := own_len h.ranks
  have hm : m = S.nodes.length := by rw [hv] at e1; injection e1
  subst hm
  have hb : L.vr.ownBlock = some b := by rw [hv]; rfl
  have ho := h.ranks
  rw [hv] at ho
  have ho' := ho.stored i (.int .i64 (n : Int))
  rw [← nats_set] at ho'
  have hne : ∀ v : Value, v.ownBlock ≠ some b → ∀ k, v.ownBlock = some k → (w.setCell ⟨b, i, none⟩ (.int .i64 (n : Int))).heap[k]? = w.heap[k]? := fun v hvb k hk => Below.heap_setCell w _ _ k (by rintro rfl; exact hvb hk)
  have hon : Only (fun k => k = b) w (w.setCell ⟨b, i, none⟩ (.int .i64 (n : Int))) := (Only.refl (fun k => k = b) w).setCell (p := ⟨b, i, none⟩) (.inl rfl) _
  refine ⟨(Below.heap_setCell w _ _ L.g (by rintro e; exact own_blk h.ranks h.blk (by decide) (by rw [hb, e]))).trans h.blk, h.low, own_keep h.nodes (hne _ (own_ne h.ranks h.nodes (by decide) b hb)), own_keep h.above (hne _ (fun e => h.ar b e hb)), by rw [hv]; exact ho'.1, own_keep h.forms (hne _ (h.rf b hb)), h.ar, h.af, h.rf, h.ad, fun k p a hk ha => ?_, h.many, h.few⟩
  obtain ⟨g1, g2⟩ := h.args k p a hk ha
  exact ⟨Ints.only g1 hon fun x e e' => (g2 x e).2 (.inr (.inr (.inr (.inl (by rw [hb, e']))))), fun x e => ⟨Nat.lt_of_lt_of_le (g2 x e).1 hon.size, (g2 x e).2⟩⟩
theorem St.set_forms (h : St w base L S) {b m cap : Nat} (hv : L.vf = .slice (some ⟨b, 0, none⟩) m cap) (i n : Nat) : St (w.setCell ⟨b, i, none⟩ (.int .i64 (n : Int))) base L { S with forms := S.forms.set i n } := by
  obtain ⟨A', c', e1, _, _⟩ := own_len h.forms
  have hm : m = S.nodes.length := by rw [hv] at e1; injection e1
  subst hm
  have hb : L.vf.ownBlock = some b := by rw [hv]; rfl
  have ho := h.forms
  rw [hv] at ho
  have ho' := ho.stored i (.int .i64 (n : Int))
  rw [← nats_set] at ho'
  have hne : ∀ v : Value, v.ownBlock ≠ some b → ∀ k, v.ownBlock = some k → (w.setCell ⟨b, i, none⟩ (.int .i64 (n : Int))).heap[k]? = w.heap[k]? := fun v hvb k hk => Below.heap_setCell w _ _ k (by rintro rfl; exact hvb hk)
  have hon : Only (fun k => k = b) w (w.setCell ⟨b, i, none⟩ (.int .i64 (n : Int))) := (Only.refl (fun k => k = b) w).setCell (p := ⟨b, i, none⟩) (.inl rfl) _
  refine ⟨(Below.heap_setCell w _ _ L.g (by rintro e; exact own_blk h.forms h.blk (by decide) (by rw [hb, e]))).trans h.blk, h.low, own_keep h.nodes (hne _ (own_ne h.forms h.nodes (by decide) b hb)), own_keep h.above (hne _ (fun e => h.af b e hb)), own_keep h.ranks (hne _ (fun e => h.rf b e hb)), by rw [hv]; exact ho'.1, h.ar, h.af, h.rf, h.ad, fun k p a hk ha => ?_, h.many, h.few⟩
  obtain ⟨g1, g2⟩ := h.args k p a hk ha
  exact ⟨Ints.only g1 hon fun x e e' => (g2 x e).2 (.inr (.inr (.inr (.inr (by rw [hb, e']))))), fun x e => ⟨Nat.lt_of_lt_of_le (g2 x e).1 hon.size, (g2 x e).2⟩⟩
end

theorem St.drew {w : World} {base : Nat} {L : Lay} {S : PS} (h : St w base L S) : St w.drew base L S := ⟨h.blk, h.low, h.nodes, h.above, h.ranks, h.forms, h.ar, h.af, h.rf, h.ad, h.args, h.many, h.few⟩
theorem St.drewN {w : World} {base : Nat} {L : Lay} {S : PS} (h : St w base L S) (n : Nat) : St (w.drewN n) base L S := ⟨h.blk, h.low, h.nodes, h.above, h.ranks, h.forms, h.ar, h.af, h.rf, h.ad, h.args, h.many, h.few⟩
/-- A store into a block that is newer than the store. -/
theorem St.far {w W : World} {base : Nat} {L : Lay} {S S' : PS} (h0 : St w base L S') (h : St W base L S) (b i : Nat) (hb : w.heap.size ≤ b) (u : Value) : St (W.setCell ⟨b, i, none⟩ u) base L S := by
  refine h.only (F := fun k => k = b) ((Only.refl (fun k => k = b) W).setCell (p := ⟨b, i, none⟩) (.inl rfl) u) (fun k hk _ hf => ?_) (fun j a ha x hx hk => ?_)
  · have := (h0.fp_lt k hf).2; omega
  · have hj : j < S'.nodes.length := by rw [← h0.ad]; exact (List.getElem?_eq_some_iff.1 ha).1
    have := ((h0.args j _ a (List.getElem?_eq_getElem hj) ha).2 x hx).1
    omega
def set4 (W : World) (g : Nat) (u0 u1 u2 u3 : Value) : World := (((W.setCell ⟨g, 0, none⟩ u0).setCell ⟨g, 1, none⟩ u1).setCell ⟨g, 2, none⟩ u2).setCell ⟨g, 3, none⟩ u3
theorem set4_cells (W : World) (g : Nat) (u0 u1 u2 u3 v0 v1 v2 v3 : Value) (h0 : W.cell? ⟨g, 0, none⟩ = some v0) (h1 : W.cell? ⟨g, 1, none⟩ = some v1) (h2 : W.cell? ⟨g, 2, none⟩ = some v2) (h3 : W.cell? ⟨g, 3, none⟩ = some v3) :
    (set4 W g u0 u1 u2 u3).cell? ⟨g, 0, none⟩ = some u0 ∧ (set4 W g u0 u1 u2 u3).cell? ⟨g, 1, none⟩ = some u1 ∧ (set4 W g u0 u1 u2 u3).cell? ⟨g, 2, none⟩ = some u2 ∧ (set4 W g u0 u1 u2 u3).cell? ⟨g, 3, none⟩ = some u3 := by
  have ne : ∀ {j k : Nat}, j ≠ k → (⟨g, j, none⟩ : Addr) ≠ ⟨g, k, none⟩ := fun h e => by injection e with _ e; exact h e
  unfold set4
  refine ⟨?_, ?_, ?_, ?_⟩
  · rw [World.cell?_setCell_other _ _ _ _ (ne (by decide)), World.cell?_setCell_other _ _ _ _ (ne (by decide)), World.cell?_setCell_other _ _ _ _ (ne (by decide))]
    exact World.cell?_setCell_same' _ _ _ (by rw [h0]; rfl)
  · rw [World.cell?_setCell_other _ _ _ _ (ne (by decide)), World.cell?_setCell_other _ _ _ _ (ne (by decide))]
    exact World.cell?_setCell_same' _ _ _ (by rw [World.cell?_setCell_other _ _ _ _ (ne (by decide)), h1]; rfl)
  · rw [World.cell?_setCell_other _ _ _ _ (ne (by decide))]
    exact World.cell?_setCell_same' _ _ _ (by rw [World.cell?_setCell_other _ _ _ _ (ne (by decide)), World.cell?_setCell_other _ _ _ _ (ne (by decide)), h2]; rfl)
  · exact World.cell?_setCell_same' _ _ _ (by rw [World.cell?_setCell_other _ _ _ _ (ne (by decide)), World.cell?_setCell_other _ _ _ _ (ne (by decide)), World.cell?_setCell_other _ _ _ _ (ne (by decide)), h3]; rfl)
/-- x is put under y. -/
def PS.put (S : PS) (x y : Nat) (v : Bool) : PS :=
  { S with forms := if v then S.forms.set y (par S.forms x) else S.forms, ranks := if par S.ranks x = par S.ranks y then S.ranks.set y (par S.ranks y + 1) else S.ranks, above := S.above.set x y }
def stepV (S : PS) (x y : Nat) : List Value := [.int .i64 (x : Int), .int .i64 (y : Int), .int .i64 (par S.forms y : Int), .int .i64 (par S.ranks y : Int)]
def PutPost (w : World) (base : Nat) (L : Lay) (S : PS) (x y : Nat) (v : Bool) (e : Ending) (w' : World) : Prop :=
  e = .returned (.agg #[.int .i64 (x : Int), .int .i64 (y : Int), .int .i64 (par S.forms y : Int), .int .i64 (par S.ranks y : Int)]) ∧ St w' base L (S.put x y v) ∧ Only L.fq w w'

set_option maxRecDepth 100000 in
set_option maxHeartbeats 4000000 in
theorem put_any {w : World} {base : Nat} {L : Lay} {S : PS} {c d : Nat → Nat} (h : St w base L S) (hf : Forest S.nodes.length (par S.above) c d) (a b x y : Nat) (hx : x < S.nodes.length) (hy : y < S.nodes.length) (hxy : x ≠ y) (cy : c y = y) (p : Nd) (hp : S.nodes[par S.forms y]? = some p)
    (hr : ∀ i, par S.ranks i ≤ 1000000) (H : (a = x ∧ b = y ∧ par S.ranks x ≤ par S.ranks y) ∨ (a = y ∧ b = x ∧ par S.ranks x < par S.ranks y)) :
    Calls Try.prog 63 #[.pointer (some ⟨L.g, 0, none⟩), .int .i64 (a : Int), .int .i64 (b : Int)] w (PutPost w base L S x y (decide (p.kind = 1))) := by
  obtain ⟨ba, ca, hva, hca⟩ := own_pos h.above (by omega)
  obtain ⟨br, cr, hvr, hcr⟩ := own_pos h.ranks (by omega)
  obtain ⟨bf, cf, hvf, hcf⟩ := own_pos h.forms (by omega)
  obtain ⟨-, g1, g2, g3⟩ := h.gcell
  have hm := h.many
  have hla := h.la; have hlr := h.lr; have hlf := h.lf
  have ax := own_nat h.above hva x (by omega)
  have rx := own_nat h.ranks hvr x (by omega)
  have ry := own_nat h.ranks hvr y (by omega)
  have fx := own_nat h.forms hvf x (by omega)
  have fy := own_nat h.forms hvf y (by omega)
  rw [par_at (by omega)] at ax rx ry fx fy
  have hrx := hr x
  have hry := hr y
  rw [hva] at g1; rw [hvr] at g2; rw [hvf] at g3
  have HH := hide h
  have HFm := hide (fun W (hW : St W base L S) => form_any hW hf y hy p (by rw [cy]; exact hp))
  have Hva := hide hva; have Hvr := hide hvr; have Hvf := hide hvf
  have glt := h.glt
  have alt : ba < w.heap.size := (h.above.lt ba (by rw [hva]; rfl)).2
  have rlt : br < w.heap.size := (h.ranks.lt br (by rw [hvr]; rfl)).2
  have flt : bf < w.heap.size := (h.forms.lt bf (by rw [hvf]; rfl)).2
  clear hva hvr hvf hla hlr hlf hp cy hf h hr
  obtain ⟨PX, hPX⟩ : ∃ X, par S.ranks x = X := ⟨_, rfl⟩
  obtain ⟨PY, hPY⟩ : ∃ X, par S.ranks y = X := ⟨_, rfl⟩
  obtain ⟨FX, hFX⟩ : ∃ X, par S.forms x = X := ⟨_, rfl⟩
  obtain ⟨FY, hFY⟩ : ∃ X, par S.forms y = X := ⟨_, rfl⟩
  rw [hPX, hPY] at H
  rw [hPX] at rx hrx; rw [hPY] at ry hry; rw [hFX] at fx; rw [hFY] at fy
  have HPX := hide hPX; have HPY := hide hPY; have HFX := hide hFX; have HFY := hide hFY
  clear hPX hPY hFX hFY
  have H' : (x = a ∧ y = b ∧ decide (PY < PX) = false) ∨ (y = a ∧ x = b ∧ decide (PX < PY) = true) := by
    rcases H with ⟨h1, h2, h3⟩ | ⟨h1, h2, h3⟩
    · exact .inl ⟨h1.symm, h2.symm, by simp; omega⟩
    · exact .inr ⟨h1.symm, h2.symm, by simp; omega⟩
  have hle : PX ≤ PY := by omega
  clear H
  have hfr : bf ≠ br := fun e => HH.out.rf br (by rw [Hvr.out]; rfl) (by rw [Hvf.out, e]; rfl)
  have har : ba ≠ br := fun e => HH.out.ar ba (by rw [Hva.out]; rfl) (by rw [Hvr.out, e]; rfl)
  have haf : ba ≠ bf := fun e => HH.out.af ba (by rw [Hva.out]; rfl) (by rw [Hvf.out, e]; rfl)
  have hga : L.g ≠ ba := fun e => own_blk HH.out.above HH.out.blk (by decide) (by rw [Hva.out, e]; rfl)
  have hgr : L.g ≠ br := fun e => own_blk HH.out.ranks HH.out.blk (by decide) (by rw [Hvr.out, e]; rfl)
  have hgf : L.g ≠ bf := fun e => own_blk HH.out.forms HH.out.blk (by decide) (by rw [Hvf.out, e]; rfl)
  have Hr := hide hfr; have Har := hide har; have Haf := hide haf; have Hga := hide hga; have Hgr := hide hgr; have Hgf := hide hgf
  clear hfr har haf hga hgr hgf
  rcases H' with H' | H'
  all_goals
    obtain ⟨rfl, rfl, d1⟩ := H'
    go_enter Try.func63, Try.ntmps63
    go_wp2
    go_quiet (fail)
    go_upto_region 3 with fail
    go_region_held3 (fun w' => w'.cell? ⟨L.g, 3, none⟩ = some (.slice (some ⟨bf, 0, none⟩) S.nodes.length cf) ∧ w'.cell? ⟨L.g, 2, none⟩ = some (.slice (some ⟨br, 0, none⟩) S.nodes.length cr) ∧ w'.cell? ⟨bf, y, none⟩ = some (.int .i64 (FY : Int)) ∧ w'.cell? ⟨br, y, none⟩ = some (.int .i64 (PY : Int))) (go_keep) (fail)
    go_upto_region 4 with fail
    obtain ⟨W3, hW3⟩ : ∃ W3, ((w.alloc (.cells #[.int .i64 0, .int .i64 0, .int .i64 0, .int .i64 0] 108)).drewN (nq + 1)).alloc (.cells #[.int .i64 (x : Int), .int .i64 (y : Int), .int .i64 (FY : Int), .int .i64 (PY : Int)] 108) = W3 := ⟨_, rfl⟩
    have hb3 : Below w.heap.size w W3 := by rw [← hW3]; exact (below_drewN ((Below.refl w.heap.size w).alloc (Nat.le_refl _) _) _).alloc (by simp) _
    have hz3 : W3.heap.size = w.heap.size + 2 := by rw [← hW3]; simp
    have hs3 : W3.heap[w.heap.size + 1]? = some (.cells #[.int .i64 (x : Int), .int .i64 (y : Int), .int .i64 (FY : Int), .int .i64 (PY : Int)] 108 (0, 0)) := by
      rw [← hW3]; have := heap_alloc_new ((w.alloc (.cells #[.int .i64 0, .int .i64 0, .int .i64 0, .int .i64 0] 108)).drewN (nq + 1)) (.cells #[.int .i64 (x : Int), .int .i64 (y : Int), .int .i64 (FY : Int), .int .i64 (PY : Int)] 108); simpa using this
    have hr3 : W3.heap[w.heap.size]? = some (.cells #[.int .i64 0, .int .i64 0, .int .i64 0, .int .i64 0] 108 (0, 0)) := by
      rw [← hW3, Below.heap_alloc _ _ _ (by simp)]; exact heap_alloc_new w _
    clear d1
    simp only [hW3]
    clear hW3
    go_wp2_with fail
    refine (HFm.out W3 (HH.out.later hb3)).mono ?_
    rintro e w4 ⟨ad4, -, rfl, hb4⟩
    have hbw4 : Below w.heap.size w w4 := hb3.trans (hb4.mono hb3.size)
    have H4 := hide (HH.out.later hbw4)
    have hz4 : w.heap.size + 2 ≤ w4.heap.size := by have := hb4.size; omega
    have S4 : Hid (w4.heap[w.heap.size + 1]? = some (.cells #[.int .i64 (x : Int), .int .i64 (y : Int), .int .i64 (FY : Int), .int .i64 (PY : Int)] 108 (0, 0))) := hide ((hb4.block _ (by omega)).trans hs3)
    have R4 : Hid (w4.heap[w.heap.size]? = some (.cells #[.int .i64 0, .int .i64 0, .int .i64 0, .int .i64 0] 108 (0, 0))) := hide ((hb4.block _ (by omega)).trans hr3)
    have G1 : w4.cell? ⟨L.g, 1, none⟩ = some (.slice (some ⟨ba, 0, none⟩) S.nodes.length ca) := (hbw4.cell glt).trans g1
    have G2 : w4.cell? ⟨L.g, 2, none⟩ = some (.slice (some ⟨br, 0, none⟩) S.nodes.length cr) := (hbw4.cell glt).trans g2
    have G3 : w4.cell? ⟨L.g, 3, none⟩ = some (.slice (some ⟨bf, 0, none⟩) S.nodes.length cf) := (hbw4.cell glt).trans g3
    have FX4 : w4.cell? ⟨bf, x, none⟩ = some (.int .i64 (FX : Int)) := (hbw4.cell flt).trans fx
    have FY4 : w4.cell? ⟨bf, y, none⟩ = some (.int .i64 (FY : Int)) := (hbw4.cell flt).trans fy
    have fz4 : w4.frozen? ⟨bf, y, none⟩ = false := H4.out.free (.inr (.inr (.inr rfl))) Hvf.out y
    have O4 := hide (Only.of_below hbw4 L.fq)
    clear hbw4 hb4 hs3 hr3 hb3 hz3 g1 g2 g3 fx fy ax rx ry W3
    have fl0 := nd_kind
    rcases Decidable.em (p.kind = 1) with hk | hk
    case' inl =>
      have k46 : (p.kind == 1) = true := by simpa using hk
      have Hk := hide hk; clear hk
      go_upto_region 5 with fail
      have K1 : Hid ((w4.setCell ⟨bf, y, none⟩ (.int .i64 (FX : Int))).drew.cell? ⟨L.g, 3, none⟩ = some (.slice (some ⟨bf, 0, none⟩) S.nodes.length cf)) := hide ((World.cell?_setCell_other w4 _ _ _ (by intro e; injection e with e1 e2; exact Hgf.out e1.symm)).trans G3)
      have K2 : Hid ((w4.setCell ⟨bf, y, none⟩ (.int .i64 (FX : Int))).drew.cell? ⟨bf, x, none⟩ = some (.int .i64 (FX : Int))) := hide ((World.cell?_setCell_other w4 _ _ _ (by intro e; injection e with e1 e2; omega)).trans FX4)
      go_region_held3 (fun w' => w'.cell? ⟨L.g, 3, none⟩ = some (.slice (some ⟨bf, 0, none⟩) S.nodes.length cf) ∧ w'.cell? ⟨bf, x, none⟩ = some (.int .i64 (FX : Int))) (first | exact ⟨K1.out, K2.out⟩ | go_keep) (fail)
      obtain ⟨W5, hW5⟩ : ∃ W5, (w4.setCell ⟨bf, y, none⟩ (.int .i64 (FX : Int))).drew = W5 := ⟨_, rfl⟩
      have H5 : Hid (St W5 base L { S with forms := S.forms.set y FX }) := hide (by rw [← hW5]; exact St.drew (H4.out.set_forms Hvf.out y FX))
      have O5 : Hid (Only L.fq w W5) := hide (by rw [← hW5]; exact (O4.out.setCell (p := ⟨bf, y, none⟩) (.inl (.inr (.inr (by rw [Hvf.out]; rfl)))) _).drew)
      have S5 : Hid (W5.heap[w.heap.size + 1]? = some (.cells #[.int .i64 (x : Int), .int .i64 (y : Int), .int .i64 (FY : Int), .int .i64 (PY : Int)] 108 (0, 0))) := hide (by rw [← hW5]; exact (Below.heap_setCell w4 ⟨bf, y, none⟩ _ _ (by simp only; omega)).trans S4.out)
      have R5 : Hid (W5.heap[w.heap.size]? = some (.cells #[.int .i64 0, .int .i64 0, .int .i64 0, .int .i64 0] 108 (0, 0))) := hide (by rw [← hW5]; exact (Below.heap_setCell w4 ⟨bf, y, none⟩ _ _ (by simp only; omega)).trans R4.out)
      obtain ⟨F5, hF5⟩ : ∃ F5, S.forms.set y FX = F5 := ⟨_, rfl⟩
      rw [hF5] at H5
      have HF5 : Hid (F5 = if decide (p.kind = 1) = true then S.forms.set y (par S.forms x) else S.forms) := hide (by rw [if_pos (by simpa using Hk.out), HFX.out, hF5])
      simp only [hW5]
      clear hW5 hF5 K1 K2
      go_upto_region 6 with fail
    case' inr =>
      have k46 : (p.kind == 1) = false := by simpa using hk
      have Hk := hide hk; clear hk
      go_upto_region 6 with fail
      obtain ⟨F5, hF5⟩ : ∃ F5, S.forms = F5 := ⟨_, rfl⟩
      obtain ⟨W5, hW5⟩ : ∃ W5, w4 = W5 := ⟨_, rfl⟩
      have H5 : Hid (St W5 base L { S with forms := F5 }) := hide (by rw [← hW5, ← hF5]; exact H4.out)
      have O5 : Hid (Only L.fq w W5) := hide (by rw [← hW5]; exact O4.out)
      have S5 : Hid (W5.heap[w.heap.size + 1]? = some (.cells #[.int .i64 (x : Int), .int .i64 (y : Int), .int .i64 (FY : Int), .int .i64 (PY : Int)] 108 (0, 0))) := hide (by rw [← hW5]; exact S4.out)
      have R5 : Hid (W5.heap[w.heap.size]? = some (.cells #[.int .i64 0, .int .i64 0, .int .i64 0, .int .i64 0] 108 (0, 0))) := hide (by rw [← hW5]; exact R4.out)
      have HF5 : Hid (F5 = if decide (p.kind = 1) = true then S.forms.set y (par S.forms x) else S.forms) := hide (by rw [if_neg (by simpa using Hk.out), hF5])
      simp only [hW5]
      clear hW5 hF5
    all_goals
      clear G1 G2 G3 FX4 FY4 fz4 H4 O4 S4 R4 hz4 k46
      obtain ⟨-, G1, G2, -⟩ := H5.out.gcell
      rw [Hva.out] at G1; rw [Hvr.out] at G2
      have hl5 := H5.out.lr
      have rx := own_nat H5.out.ranks Hvr.out x (by rw [hl5]; exact hx)
      have ry := own_nat H5.out.ranks Hvr.out y (by rw [hl5]; exact hy)
      rw [par_at (by rw [hl5]; exact hx)] at rx
      rw [par_at (by rw [hl5]; exact hy)] at ry
      simp only [HPX.out, HPY.out] at rx ry
      clear hl5
      go_quiet (fail)
      rcases Decidable.em (PX = PY) with he | he
      case' inl =>
        have k74 : ((PX : Int) == (PY : Int)) = true := by simp; omega
        have fz : W5.frozen? ⟨br, y, none⟩ = false := H5.out.free (.inr (.inr (.inl rfl))) Hvr.out y
        have He := hide he; clear he
        go_upto_region 8 with fail
        obtain ⟨W7, hW7⟩ : ∃ W7, (W5.drewN nq).setCell ⟨br, y, none⟩ (.int .i64 ((PY : Int) + 1)) = W7 := ⟨_, rfl⟩
        obtain ⟨R7, hR7⟩ : ∃ R7, S.ranks.set y (PY + 1) = R7 := ⟨_, rfl⟩
        have H7 : Hid (St W7 base L { S with forms := F5, ranks := R7 }) := hide (by rw [← hW7, ← hR7]; exact (H5.out.drewN nq).set_ranks Hvr.out y (PY + 1))
        have O7 : Hid (Only L.fq w W7) := hide (by rw [← hW7]; exact (O5.out.drewN nq).setCell (p := ⟨br, y, none⟩) (.inl (.inr (.inl (by rw [Hvr.out]; rfl)))) _)
        have S7 : Hid (W7.heap[w.heap.size + 1]? = some (.cells #[.int .i64 (x : Int), .int .i64 (y : Int), .int .i64 (FY : Int), .int .i64 (PY : Int)] 108 (0, 0))) := hide (by rw [← hW7]; exact (Below.heap_setCell (W5.drewN nq) ⟨br, y, none⟩ _ _ (by simp only; omega)).trans S5.out)
        have Q7 : Hid (W7.heap[w.heap.size]? = some (.cells #[.int .i64 0, .int .i64 0, .int .i64 0, .int .i64 0] 108 (0, 0))) := hide (by rw [← hW7]; exact (Below.heap_setCell (W5.drewN nq) ⟨br, y, none⟩ _ _ (by simp only; omega)).trans R5.out)
        have HR7 : Hid (R7 = if par S.ranks x = par S.ranks y then S.ranks.set y (par S.ranks y + 1) else S.ranks) := hide (by rw [HPX.out, HPY.out, if_pos He.out, hR7])
        simp only [hW7]
        clear hW7 hR7
        clear fz
      case' inr =>
        have k74 : ((PX : Int) == (PY : Int)) = false := by simp; omega
        have He := hide he; clear he
        go_upto_region 8 with fail
        obtain ⟨W7, hW7⟩ : ∃ W7, W5.drewN nq = W7 := ⟨_, rfl⟩
        obtain ⟨R7, hR7⟩ : ∃ R7, S.ranks = R7 := ⟨_, rfl⟩
        have H7 : Hid (St W7 base L { S with forms := F5, ranks := R7 }) := hide (by rw [← hW7, ← hR7]; exact H5.out.drewN _)
        have O7 : Hid (Only L.fq w W7) := hide (by rw [← hW7]; exact O5.out.drewN _)
        have S7 : Hid (W7.heap[w.heap.size + 1]? = some (.cells #[.int .i64 (x : Int), .int .i64 (y : Int), .int .i64 (FY : Int), .int .i64 (PY : Int)] 108 (0, 0))) := hide (by rw [← hW7]; exact S5.out)
        have Q7 : Hid (W7.heap[w.heap.size]? = some (.cells #[.int .i64 0, .int .i64 0, .int .i64 0, .int .i64 0] 108 (0, 0))) := hide (by rw [← hW7]; exact R5.out)
        have HR7 : Hid (R7 = if par S.ranks x = par S.ranks y then S.ranks.set y (par S.ranks y + 1) else S.ranks) := hide (by rw [HPX.out, HPY.out, if_neg He.out, hR7])
        simp only [hW7]
        clear hW7 hR7
      all_goals
        clear G1 G2 rx ry k74 H5 O5 S5 R5
        obtain ⟨-, G1, -, -⟩ := H7.out.gcell
        rw [Hva.out] at G1
        have hl7 := H7.out.la
        have ax := own_nat H7.out.above Hva.out x (by rw [hl7]; exact hx)
        have fz : W7.frozen? ⟨ba, x, none⟩ = false := H7.out.free (.inr (.inl rfl)) Hva.out x
        rw [par_at (by rw [hl7]; exact hx)] at ax
        clear hl7
        go_upto_region 9 with fail
        obtain ⟨W8, hW8⟩ : ∃ W8, W7.setCell ⟨ba, x, none⟩ (.int .i64 (y : Int)) = W8 := ⟨_, rfl⟩
        have H8 : Hid (St W8 base L { S with forms := F5, ranks := R7, above := S.above.set x y }) := hide (by rw [← hW8]; exact H7.out.set_above Hva.out x y)
        have O8 : Hid (Only L.fq w W8) := hide (by rw [← hW8]; exact O7.out.setCell (p := ⟨ba, x, none⟩) (.inl (.inl (by rw [Hva.out]; rfl))) _)
        have s8 : W8.heap[w.heap.size + 1]? = some (.cells #[.int .i64 (x : Int), .int .i64 (y : Int), .int .i64 (FY : Int), .int .i64 (PY : Int)] 108 (0, 0)) := by rw [← hW8]; exact (Below.heap_setCell W7 ⟨ba, x, none⟩ _ _ (by simp only; omega)).trans S7.out
        have q8 : W8.heap[w.heap.size]? = some (.cells #[.int .i64 0, .int .i64 0, .int .i64 0, .int .i64 0] 108 (0, 0)) := by rw [← hW8]; exact (Below.heap_setCell W7 ⟨ba, x, none⟩ _ _ (by simp only; omega)).trans Q7.out
        simp only [hW8]
        clear hW8 G1 ax fz
        have s0 : W8.cell? ⟨w.heap.size + 1, 0, none⟩ = some (.int .i64 (x : Int)) := by rw [cell_of_row _ _ _ _ _ _ s8]; rfl
        have s1 : W8.cell? ⟨w.heap.size + 1, 1, none⟩ = some (.int .i64 (y : Int)) := by rw [cell_of_row _ _ _ _ _ _ s8]; rfl
        have s2 : W8.cell? ⟨w.heap.size + 1, 2, none⟩ = some (.int .i64 (FY : Int)) := by rw [cell_of_row _ _ _ _ _ _ s8]; rfl
        have s3 : W8.cell? ⟨w.heap.size + 1, 3, none⟩ = some (.int .i64 (PY : Int)) := by rw [cell_of_row _ _ _ _ _ _ s8]; rfl
        have q0 : W8.cell? ⟨w.heap.size, 0, none⟩ = some (.int .i64 0) := by rw [cell_of_row _ _ _ _ _ _ q8]; rfl
        have q1 : W8.cell? ⟨w.heap.size, 1, none⟩ = some (.int .i64 0) := by rw [cell_of_row _ _ _ _ _ _ q8]; rfl
        have q2 : W8.cell? ⟨w.heap.size, 2, none⟩ = some (.int .i64 0) := by rw [cell_of_row _ _ _ _ _ _ q8]; rfl
        have q3 : W8.cell? ⟨w.heap.size, 3, none⟩ = some (.int .i64 0) := by rw [cell_of_row _ _ _ _ _ _ q8]; rfl
        have qf : ∀ k, W8.frozen? ⟨w.heap.size, k, none⟩ = false := fun k => by simp [World.frozen?, q8]
        have z0 := qf 0; have z1 := qf 1; have z2 := qf 2; have z3 := qf 3
        clear s8 q8 qf
        go_wp2
        obtain ⟨c0, c1, c2, c3⟩ := set4_cells W8 w.heap.size (.int .i64 (x : Int)) (.int .i64 (y : Int)) (.int .i64 (FY : Int)) (.int .i64 (PY : Int)) _ _ _ _ q0 q1 q2 q3
        have H9 : Hid (St (set4 W8 w.heap.size (.int .i64 (x : Int)) (.int .i64 (y : Int)) (.int .i64 (FY : Int)) (.int .i64 (PY : Int))) base L { S with forms := F5, ranks := R7, above := S.above.set x y }) :=
          hide (HH.out.far (HH.out.far (HH.out.far (HH.out.far H8.out _ 0 (Nat.le_refl _) _) _ 1 (Nat.le_refl _) _) _ 2 (Nat.le_refl _) _) _ 3 (Nat.le_refl _) _)
        have O9 : Hid (Only L.fq w (set4 W8 w.heap.size (.int .i64 (x : Int)) (.int .i64 (y : Int)) (.int .i64 (FY : Int)) (.int .i64 (PY : Int)))) :=
          hide ((((O8.out.setCell (p := ⟨w.heap.size, 0, none⟩) (.inr (Nat.le_refl _)) _).setCell (p := ⟨w.heap.size, 1, none⟩) (.inr (Nat.le_refl _)) _).setCell (p := ⟨w.heap.size, 2, none⟩) (.inr (Nat.le_refl _)) _).setCell (p := ⟨w.heap.size, 3, none⟩) (.inr (Nat.le_refl _)) _)
        have hst : { S with forms := F5, ranks := R7, above := S.above.set x y } = S.put x y (decide (p.kind = 1)) := by
          rw [HF5.out, HR7.out]; rfl
        rw [hst] at H9
        clear hst H8 O8 s0 s1 s2 s3 q0 q1 q2 q3 z0 z1 z2 z3
        change bodyPost Try.prog Try.f63 _ _ _ (set4 W8 w.heap.size (.int .i64 (x : Int)) (.int .i64 (y : Int)) (.int .i64 (FY : Int)) (.int .i64 (PY : Int)))
        generalize set4 W8 w.heap.size (.int .i64 (x : Int)) (.int .i64 (y : Int)) (.int .i64 (FY : Int)) (.int .i64 (PY : Int)) = W9 at *
        exact bodyPost_ret (v := .agg #[.int .i64 (x : Int), .int .i64 (y : Int), .int .i64 (FY : Int), .int .i64 (PY : Int)]) (by simp [results, Try.results63, go_sem, c0, c1, c2, c3]) rfl ⟨by rw [HFY.out, HPY.out], H9.out, O9.out⟩
end Go.Proofs.Ytafpbdmggnfdnaa
