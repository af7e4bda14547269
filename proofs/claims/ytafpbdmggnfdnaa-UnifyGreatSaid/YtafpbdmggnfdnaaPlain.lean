/- The plain mathematics of the lexer: the tokens of a text as a function on its list of bytes. No program in sight. -/
namespace Go.Proofs.Ytafpbdmggnfdnaa

def smallB (c : Int) : Bool := decide (97 ≤ c) && decide (c ≤ 122)
def greatB (c : Int) : Bool := decide (65 ≤ c) && decide (c ≤ 90)
def digitB (c : Int) : Bool := decide (48 ≤ c) && decide (c ≤ 57)
def whiteB (c : Int) : Bool := c == 32 || c == 9 || c == 10 || c == 13
def nameB (t : Bool) (c : Int) : Bool := smallB c || greatB c || digitB c || c == 95 || (t && c == 39)

/-- A token: its kind, where it begins, where it ends. -/
abbrev Tk := Int × Int × Int
abbrev Bs := List UInt8

def nm (t : Bool) (c : UInt8) : Bool := nameB t (c.toNat : Int)
def dg (c : UInt8) : Bool := digitB (c.toNat : Int)
def runL (t : Bool) (l : Bs) : Nat := (l.takeWhile (nm t)).length
def digL (l : Bs) : Nat := (l.takeWhile dg).length

/-- let, rec, in, fun, if, then, else, match, with, type, of, true, false. -/
def keyWords : List Bs := [[108, 101, 116], [114, 101, 99], [105, 110], [102, 117, 110], [105, 102], [116, 104, 101, 110], [101, 108, 115, 101], [109, 97, 116, 99, 104], [119, 105, 116, 104], [116, 121, 112, 101], [111, 102], [116, 114, 117, 101], [102, 97, 108, 115, 101]]
def wordKindL (l : Bs) : Int := if l = [95] then 6 else if l ∈ keyWords then 5 else 1

/-- Is it one of the signs of one byte ("_" is told as a word)? -/
def sign1B (c : Int) : Bool := c == 40 || c == 41 || c == 44 || c == 124 || c == 61 || c == 60 || c == 43 || c == 45 || c == 42
/-- Is it one of the signs of two bytes? -/
def sign2B (c d : Int) : Bool := (c == 45 && d == 62) || (c == 58 && d == 58) || (c == 59 && d == 59)

def signL : Bs → Nat
  | [] => 0
  | [c] => if sign1B c.toNat then 1 else 0
  | c :: d :: _ => if sign2B c.toNat d.toNat then 2 else if sign1B c.toNat then 1 else 0

/-- The kind and the length of the token that begins at the head of a text; 0 and 0: none does. -/
def tokenL : Bs → Int × Nat
  | [] => (0, 0)
  | c :: r =>
    if smallB c.toNat || (c.toNat : Int) == 95 then (wordKindL ((c :: r).take (runL true (c :: r))), runL true (c :: r))
    else if greatB c.toNat then (2, runL true (c :: r))
    else if digitB c.toNat then (3, 1 + digL r)
    else if (c.toNat : Int) == 39 then (match r with | d :: _ => if smallB d.toNat then (4, 1 + runL false r) else (0, 0) | [] => (0, 0))
    else if 0 < signL (c :: r) then (6, signL (c :: r)) else (0, 0)

def opensL : Bs → Bool
  | c :: d :: _ => (c.toNat : Int) == 40 && (d.toNat : Int) == 42
  | _ => false
def closesL : Bs → Bool
  | c :: d :: _ => (c.toNat : Int) == 42 && (d.toNat : Int) == 41
  | _ => false

/-- How many bytes a remark takes, read at depth d, n being read already; and whether it ends. -/
def remL : Bs → Int → Nat → Nat × Bool
  | [], _, n => (n, false)
  | [_], _, n => (n + 1, false)
  | a :: b :: r, d, n =>
    if opensL (a :: b :: r) then remL r (d + 1) (n + 2)
    else if closesL (a :: b :: r) then (if d - 1 = 0 then (n + 2, true) else remL r (d - 1) (n + 2))
    else remL (b :: r) d (n + 1)

/-- How many bytes at the head of a text are nothing. -/
def noL : Bs → Nat
  | [] => 0
  | c :: r => if whiteB c.toNat || opensL (c :: r) || decide (0 < (tokenL (c :: r)).2) then 0 else 1 + noL r

/-- The token or the run of nothing at the head of a text that is not empty. -/
def pieceL (l : Bs) : Int × Nat := if (tokenL l).2 = 0 then (7, 1 + noL l.tail) else tokenL l

def lexL : Nat → Bs → Nat → List Tk
  | 0, _, _ => []
  | _ + 1, [], _ => []
  | n + 1, c :: r, p =>
    if whiteB c.toNat then lexL n r (p + 1)
    else if opensL (c :: r) then
      (if (remL (c :: r) 0 0).2 then lexL n ((c :: r).drop (remL (c :: r) 0 0).1) (p + (remL (c :: r) 0 0).1) else [(7, (p : Int), (p : Int) + (remL (c :: r) 0 0).1)])
    else ((pieceL (c :: r)).1, (p : Int), (p : Int) + (pieceL (c :: r)).2) :: lexL n ((c :: r).drop (pieceL (c :: r)).2) (p + (pieceL (c :: r)).2)

/-- The tokens of a text that begins at the byte p. -/
def lx (l : Bs) (p : Nat) : List Tk := lexL l.length l p

/-! ### Lengths -/
theorem takeWhile_le (p : UInt8 → Bool) (l : Bs) : (l.takeWhile p).length ≤ l.length := (List.takeWhile_sublist p).length_le
theorem runL_le (t : Bool) (l : Bs) : runL t l ≤ l.length := takeWhile_le _ _
theorem digL_le (l : Bs) : digL l ≤ l.length := takeWhile_le _ _
theorem runL_cons (t : Bool) (c : UInt8) (r : Bs) : runL t (c :: r) = if nm t c then 1 + runL t r else 0 := by
  unfold runL; rw [List.takeWhile_cons]; split <;> simp <;> omega
theorem digL_cons (c : UInt8) (r : Bs) : digL (c :: r) = if dg c then 1 + digL r else 0 := by
  unfold digL; rw [List.takeWhile_cons]; split <;> simp <;> omega
theorem signL_le (l : Bs) : signL l ≤ l.length := by
  rcases l with _ | ⟨c, _ | ⟨d, r⟩⟩
  · simp [signL]
  · simp only [signL, List.length_cons, List.length_nil]; split <;> omega
  · simp only [signL, List.length_cons]; split
    · omega
    · split <;> omega
theorem tokenL_le (l : Bs) : (tokenL l).2 ≤ l.length := by
  rcases l with _ | ⟨c, r⟩
  · simp [tokenL]
  · simp only [tokenL]
    split
    · exact runL_le _ _
    · split
      · exact runL_le _ _
      · split
        · have := digL_le r; simp only [List.length_cons]; omega
        · split
          · rcases r with _ | ⟨d, r⟩
            · simp
            · dsimp only
              split
              · have := runL_le false (d :: r); simp only [List.length_cons] at *; omega
              · simp
          · split
            · exact signL_le _
            · simp
theorem noL_le (l : Bs) : noL l ≤ l.length := by
  induction l with
  | nil => simp [noL]
  | cons c r ih => unfold noL; split <;> simp only [List.length_cons] <;> omega
theorem pieceL_pos (l : Bs) : 0 < (pieceL l).2 := by
  unfold pieceL; split
  · simp only; omega
  · omega
theorem pieceL_le (c : UInt8) (r : Bs) : (pieceL (c :: r)).2 ≤ (c :: r).length := by
  unfold pieceL; split
  · have := noL_le r; simp only [List.tail_cons, List.length_cons]; omega
  · exact tokenL_le _
theorem remL_ge (l : Bs) (d : Int) (n : Nat) : n ≤ (remL l d n).1 ∧ (remL l d n).1 ≤ n + l.length := by
  fun_induction remL l d n with
  | case1 => simp
  | case2 => simp
  | case3 a b r d n h ih => simp only [List.length_cons]; omega
  | case4 a b r d n h h2 h3 => simp only [List.length_cons]; omega
  | case5 a b r d n h h2 h3 ih => simp only [List.length_cons]; omega
  | case6 a b r d n h h2 ih => simp only [List.length_cons] at *; omega
theorem remL_not (l : Bs) (d : Int) (n : Nat) (h : (remL l d n).2 = false) : (remL l d n).1 = n + l.length := by
  fun_induction remL l d n with
  | case1 => simp
  | case2 => simp
  | case3 a b r d n h ih => rw [ih h]; simp only [List.length_cons]; omega
  | case4 a b r d n h h2 h3 => simp at h
  | case5 a b r d n h h2 h3 ih => rw [ih h]; simp only [List.length_cons]; omega
  | case6 a b r d n h h2 ih => rw [ih h]; simp only [List.length_cons]; omega
theorem remL_pos (l : Bs) (h : opensL l = true) (d : Int) (n : Nat) : n + 2 ≤ (remL l d n).1 := by
  rcases l with _ | ⟨a, _ | ⟨b, r⟩⟩
  · simp [opensL] at h
  · simp [opensL] at h
  · unfold remL; rw [if_pos h]; exact (remL_ge r (d + 1) (n + 2)).1

theorem lexL_fuel (n m : Nat) (l : Bs) (p : Nat) (hn : l.length ≤ n) (hm : l.length ≤ m) : lexL n l p = lexL m l p := by
  induction n generalizing m l p with
  | zero =>
    have : l = [] := List.eq_nil_of_length_eq_zero (by omega)
    subst this; cases m <;> rfl
  | succ n ih =>
    rcases l with _ | ⟨c, r⟩
    · cases m <;> rfl
    · obtain ⟨m, rfl⟩ : ∃ k, m = k + 1 := ⟨m - 1, by simp only [List.length_cons] at hm; omega⟩
      have h1 : r.length ≤ n := by simp only [List.length_cons] at hn; omega
      have h2 : r.length ≤ m := by simp only [List.length_cons] at hm; omega
      unfold lexL
      split
      · exact ih m r _ h1 h2
      · split
        · rename_i ho
          have hp := remL_pos (c :: r) ho 0 0
          split
          · exact ih m _ _ (by simp only [List.length_drop, List.length_cons]; omega) (by simp only [List.length_drop, List.length_cons]; omega)
          · rfl
        · have hp := pieceL_pos (c :: r)
          rw [ih m _ _ (by simp only [List.length_drop, List.length_cons]; omega) (by simp only [List.length_drop, List.length_cons]; omega)]

theorem lx_nil (p : Nat) : lx [] p = [] := rfl
theorem lx_white (c : UInt8) (r : Bs) (p : Nat) (h : whiteB c.toNat = true) : lx (c :: r) p = lx r (p + 1) := by
  show lexL (r.length + 1) (c :: r) p = _
  unfold lexL; rw [if_pos h]; rfl
theorem lx_remark (c : UInt8) (r : Bs) (p : Nat) (h : whiteB c.toNat = false) (ho : opensL (c :: r) = true) (he : (remL (c :: r) 0 0).2 = true) :
    lx (c :: r) p = lx ((c :: r).drop (remL (c :: r) 0 0).1) (p + (remL (c :: r) 0 0).1) := by
  have hp := remL_pos (c :: r) ho 0 0
  show lexL (r.length + 1) (c :: r) p = _
  unfold lexL; rw [if_neg (by simp [h]), if_pos ho, if_pos he]
  exact lexL_fuel _ _ _ _ (by simp only [List.length_drop, List.length_cons]; omega) (Nat.le_refl _)
theorem lx_open (c : UInt8) (r : Bs) (p : Nat) (h : whiteB c.toNat = false) (ho : opensL (c :: r) = true) (he : (remL (c :: r) 0 0).2 = false) :
    lx (c :: r) p = [(7, (p : Int), (p : Int) + (remL (c :: r) 0 0).1)] := by
  show lexL (r.length + 1) (c :: r) p = _
  unfold lexL; rw [if_neg (by simp [h]), if_pos ho, if_neg (by simp [he])]
theorem lx_piece (c : UInt8) (r : Bs) (p : Nat) (h : whiteB c.toNat = false) (ho : opensL (c :: r) = false) :
    lx (c :: r) p = ((pieceL (c :: r)).1, (p : Int), (p : Int) + (pieceL (c :: r)).2) :: lx ((c :: r).drop (pieceL (c :: r)).2) (p + (pieceL (c :: r)).2) := by
  have hp := pieceL_pos (c :: r)
  show lexL (r.length + 1) (c :: r) p = _
  unfold lexL; rw [if_neg (by simp [h]), if_neg (by simp [ho])]
  rw [lexL_fuel _ _ _ _ (by simp only [List.length_drop, List.length_cons]; omega) (Nat.le_refl _)]
  rfl

theorem lx_length (l : Bs) (p : Nat) : (lx l p).length ≤ l.length := by
  have : ∀ n (l : Bs) p, (lexL n l p).length ≤ n := by
    intro n
    induction n with
    | zero => intro l p; simp [lexL]
    | succ n ih =>
      intro l p
      rcases l with _ | ⟨c, r⟩
      · simp [lexL]
      · unfold lexL
        split
        · exact Nat.le_succ_of_le (ih _ _)
        · split
          · split
            · exact Nat.le_succ_of_le (ih _ _)
            · simp
          · simp only [List.length_cons]; have := ih ((c :: r).drop (pieceL (c :: r)).2) (p + (pieceL (c :: r)).2); omega
  exact this _ l p

end Go.Proofs.Ytafpbdmggnfdnaa
