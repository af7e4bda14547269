/- Part 1 of the proof of UnifyCopies: what follows was kept as these texts: Plain, Leaf, PlainForest, Store. -/
import Derived.Test.YtafpbdmggnfdnaaRows
import Derived.WalkKit
import Derived.WalkSpells
import Derived.WalkLawsBesides
import Derived.KernelRfl
import Derived.Laws.OwnMore
import Derived.Deep.Draws
import Derived.OwnWalk
/- The plain mathematics of the lexer: the tokens of a text as a function on its list of bytes. No program in sight. -/
namespace Go.Proofs.Ytafpbdmggnfdnaa

def smallB (c : Int) : Bool := decide (97 ≤ c) && decide (c ≤ 122)
def greatB (c : Int) : Bool := decide (65 ≤ c) && decide (c ≤ 90)
def digitB (c : Int) : Bool := decide (48 ≤ c) && decide (c ≤ 57)
def whiteB (c : Int) : Bool := c == 32 || c == 9 || c == 10 || c == 13
def nameB (t : Bool) (c : Int) : Bool := smallB c || greatB c || digitB c || c == 95 || (t && c == 39)

/-- A token: its kind, where it begins, where it ends. -/
abbrev Tk := Int × Int × Int
abbrev Bs := List UInt8

def nm (t : Bool) (c : UInt8) : Bool := nameB t (c.toNat : Int)
def dg (c : UInt8) : Bool := digitB (c.toNat : Int)
def runL (t : Bool) (l : Bs) : Nat := (l.takeWhile (nm t)).length
def digL (l : Bs) : Nat := (l.takeWhile dg).length

/-- let, rec, in, fun, if, then, else, match, with, type, of, true, false. -/
def keyWords : List Bs := [[108, 101, 116], [114, 101, 99], [105, 110], [102, 117, 110], [105, 102], [116, 104, 101, 110], [101, 108, 115, 101], [109, 97, 116, 99, 104], [119, 105, 116, 104], [116, 121, 112, 101], [111, 102], [116, 114, 117, 101], [102, 97, 108, 115, 101]]
def wordKindL (l : Bs) : Int := if l = [95] then 6 else if l ∈ keyWords then 5 else 1

/-- Is it one of the signs of one byte ("_" is told as a word)? -/
def sign1B (c : Int) : Bool := c == 40 || c == 41 || c == 44 || c == 124 || c == 61 || c == 60 || c == 43 || c == 45 || c == 42
/-- Is it one of the signs of two bytes? -/
def sign2B (c d : Int) : Bool := (c == 45 && d == 62) || (c == 58 && d == 58) || (c == 59 && d == 59)

def signL : Bs → Nat
  | [] => 0
  | [c] => if sign1B c.toNat then 1 else 0
  | c :: d :: _ => if sign2B c.toNat d.toNat then 2 else if sign1B c.toNat then 1 else 0

/-- The kind and the length of the token that begins at the head of a text; 0 and 0: none does. -/
def tokenL : Bs → Int × Nat
  | [] => (0, 0)
  | c :: r =>
    if smallB c.toNat || (c.toNat : Int) == 95 then (wordKindL ((c :: r).take (runL true (c :: r))), runL true (c :: r))
    else if greatB c.toNat then (2, runL true (c :: r))
    else if digitB c.toNat then (3, 1 + digL r)
    else if (c.toNat : Int) == 39 then (match r with | d :: _ => if smallB d.toNat then (4, 1 + runL false r) else (0, 0) | [] => (0, 0))
    else if 0 < signL (c :: r) then (6, signL (c :: r)) else (0, 0)

def opensL : Bs → Bool
  | c :: d :: _ => (c.toNat : Int) == 40 && (d.toNat : Int) == 42
  | _ => false
def closesL : Bs → Bool
  | c :: d :: _ => (c.toNat : Int) == 42 && (d.toNat : Int) == 41
  | _ => false

/-- How many bytes a remark takes, read at depth d, n being read already; and whether it ends. -/
def remL : Bs → Int → Nat → Nat × Bool
  | [], _, n => (n, false)
  | [_], _, n => (n + 1, false)
  | a :: b :: r, d, n =>
    if opensL (a :: b :: r) then remL r (d + 1) (n + 2)
    else if closesL (a :: b :: r) then (if d - 1 = 0 then (n + 2, true) else remL r (d - 1) (n + 2))
    else remL (b :: r) d (n + 1)

/-- How many bytes at the head of a text are nothing. -/
def noL : Bs → Nat
  | [] => 0
  | c :: r => if whiteB c.toNat || opensL (c :: r) || decide (0 < (tokenL (c :: r)).2) then 0 else 1 + noL r

/-- The token or the run of nothing at the head of a text that is not empty. -/
def pieceL (l : Bs) : Int × Nat := if (tokenL l).2 = 0 then (7, 1 + noL l.tail) else tokenL l

def lexL : Nat → Bs → Nat → List Tk
  | 0, _, _ => []
  | _ + 1, [], _ => []
  | n + 1, c :: r, p =>
    if whiteB c.toNat then lexL n r (p + 1)
    else if opensL (c :: r) then
      (if (remL (c :: r) 0 0).2 then lexL n ((c :: r).drop (remL (c :: r) 0 0).1) (p + (remL (c :: r) 0 0).1) else [(7, (p : Int), (p : Int) + (remL (c :: r) 0 0).1)])
    else ((pieceL (c :: r)).1, (p : Int), (p : Int) + (pieceL (c :: r)).2) :: lexL n ((c :: r).drop (pieceL (c :: r)).2) (p + (pieceL (c :: r)).2)

/-- The tokens of a text that begins at the byte p. -/
def lx (l : Bs) (p : Nat) : List Tk := lexL l.length l p

/-! ### Lengths -/
theorem takeWhile_le (p : UInt8 → Bool) (l : Bs) : (l.takeWhile p).length ≤ l.length := (List.takeWhile_sublist p).length_le
theorem runL_le (t : Bool) (l : Bs) : runL t l ≤ l.length := takeWhile_le _ _
theorem digL_le (l : Bs) : digL l ≤ l.length := takeWhile_le _ _
theorem runL_cons (t : Bool) (c : UInt8) (r : Bs) : runL t (c :: r) = if nm t c then 1 + runL t r else 0 := by
  unfold runL; rw [List.takeWhile_cons]; split <;> simp <;> omega
theorem digL_cons (c : UInt8) (r : Bs) : digL (c :: r) = if dg c then 1 + digL r else 0 := by
  unfold digL; rw [List.takeWhile_cons]; split <;> simp <;> omega
theorem signL_le (l : Bs) : signL l ≤ l.length := by
  rcases l with _ | ⟨c, _ | ⟨d, r⟩⟩
  · simp [signL]
  · simp only [signL, List.length_cons, List.length_nil]; split <;> omega
  · simp only [signL, List.length_cons]; split
    · omega
    · split <;> omega
theorem tokenL_le (l : Bs) : (tokenL l).2 ≤ l.length := by
  rcases l with _ | ⟨c, r⟩
  · simp [tokenL]
  · simp only [tokenL]
    split
    · exact runL_le _ _
    · split
      · exact runL_le _ _
      · split
        · have := digL_le r; simp only [List.length_cons]; omega
        · split
          · rcases r with _ | ⟨d, r⟩
            · simp
            · dsimp only
              split
              · have := runL_le false (d :: r); simp only [List.length_cons] at *; omega
              · simp
          · split
            · exact signL_le _
            · simp
theorem noL_le (l : Bs) : noL l ≤ l.length := by
  induction l with
  | nil => simp [noL]
  | cons c r ih => unfold noL; split <;> simp only [List.length_cons] <;> omega
theorem pieceL_pos (l : Bs) : 0 < (pieceL l).2 := by
  unfold pieceL; split
  · simp only; omega
  · omega
theorem pieceL_le (c : UInt8) (r : Bs) : (pieceL (c :: r)).2 ≤ (c :: r).length := by
  unfold pieceL; split
  · have := noL_le r; simp only [List.tail_cons, List.length_cons]; omega
  · exact tokenL_le _
theorem remL_ge (l : Bs) (d : Int) (n : Nat) : n ≤ (remL l d n).1 ∧ (remL l d n).1 ≤ n + l.length := by
  fun_induction remL l d n with
  | case1 => simp
  | case2 => simp
  | case3 a b r d n h ih => simp only [List.length_cons]; omega
  | case4 a b r d n h h2 h3 => simp only [List.length_cons]; omega
  | case5 a b r d n h h2 h3 ih => simp only [List.length_cons]; omega
  | case6 a b r d n h h2 ih => simp only [List.length_cons] at *; omega
theorem remL_not (l : Bs) (d : Int) (n : Nat) (h : (remL l d n).2 = false) : (remL l d n).1 = n + l.length := by
  fun_induction remL l d n with
  | case1 => simp
  | case2 => simp
  | case3 a b r d n h ih => rw [ih h]; simp only [List.length_cons]; omega
  | case4 a b r d n h h2 h3 => simp at h
  | case5 a b r d n h h2 h3 ih => rw [ih h]; simp only [List.length_cons]; omega
  | case6 a b r d n h h2 ih => rw [ih h]; simp only [List.length_cons]; omega
theorem remL_pos (l : Bs) (h : opensL l = true) (d : Int) (n : Nat) : n + 2 ≤ (remL l d n).1 := by
  rcases l with _ | ⟨a, _ | ⟨b, r⟩⟩
  · simp [opensL] at h
  · simp [opensL] at h
  · unfold remL; rw [if_pos h]; exact (remL_ge r (d + 1) (n + 2)).1

theorem lexL_fuel (n m : Nat) (l : Bs) (p : Nat) (hn : l.length ≤ n) (hm : l.length ≤ m) : lexL n l p = lexL m l p := by
  induction n generalizing m l p with
  | zero =>
    have : l = [] := List.eq_nil_of_length_eq_zero (by omega)
    subst this; cases m <;> rfl
  | succ n ih =>
    rcases l with _ | ⟨c, r⟩
    · cases m <;> rfl
    · obtain ⟨m, rfl⟩ : ∃ k, m = k + 1 := ⟨m - 1, by simp only [List.length_cons] at hm; omega⟩
      have h1 : r.length ≤ n := by simp only [List.length_cons] at hn; omega
      have h2 : r.length ≤ m := by simp only [List.length_cons] at hm; omega
      unfold lexL
      split
      · exact ih m r _ h1 h2
      · split
        · rename_i ho
          have hp := remL_pos (c :: r) ho 0 0
          split
          · exact ih m _ _ (by simp only [List.length_drop, List.length_cons]; omega) (by simp only [List.length_drop, List.length_cons]; omega)
          · rfl
        · have hp := pieceL_pos (c :: r)
          rw [ih m _ _ (by simp only [List.length_drop, List.length_cons]; omega) (by simp only [List.length_drop, List.length_cons]; omega)]

theorem lx_nil (p : Nat) : lx [] p = [] := rfl
theorem lx_white (c : UInt8) (r : Bs) (p : Nat) (h : whiteB c.toNat = true) : lx (c :: r) p = lx r (p + 1) := by
  show lexL (r.length + 1) (c :: r) p = _
  unfold lexL; rw [if_pos h]; rfl
theorem lx_remark (c : UInt8) (r : Bs) (p : Nat) (h : whiteB c.toNat = false) (ho : opensL (c :: r) = true) (he : (remL (c :: r) 0 0).2 = true) :
    lx (c :: r) p = lx ((c :: r).drop (remL (c :: r) 0 0).1) (p + (remL (c :: r) 0 0).1) := by
  have hp := remL_pos (c :: r) ho 0 0
  show lexL (r.length + 1) (c :: r) p = _
  unfold lexL; rw [if_neg (by simp [h]), if_pos ho, if_pos he]
  exact lexL_fuel _ _ _ _ (by simp only [List.length_drop, List.length_cons]; omega) (Nat.le_refl _)
theorem lx_open (c : UInt8) (r : Bs) (p : Nat) (h : whiteB c.toNat = false) (ho : opensL (c :: r) = true) (he : (remL (c :: r) 0 0).2 = false) :
    lx (c :: r) p = [(7, (p : Int), (p : Int) + (remL (c :: r) 0 0).1)] := by
  show lexL (r.length + 1) (c :: r) p = _
  unfold lexL; rw [if_neg (by simp [h]), if_pos ho, if_neg (by simp [he])]
theorem lx_piece (c : UInt8) (r : Bs) (p : Nat) (h : whiteB c.toNat = false) (ho : opensL (c :: r) = false) :
    lx (c :: r) p = ((pieceL (c :: r)).1, (p : Int), (p : Int) + (pieceL (c :: r)).2) :: lx ((c :: r).drop (pieceL (c :: r)).2) (p + (pieceL (c :: r)).2) := by
  have hp := pieceL_pos (c :: r)
  show lexL (r.length + 1) (c :: r) p = _
  unfold lexL; rw [if_neg (by simp [h]), if_neg (by simp [ho])]
  rw [lexL_fuel _ _ _ _ (by simp only [List.length_drop, List.length_cons]; omega) (Nat.le_refl _)]
  rfl

theorem lx_length (l : Bs) (p : Nat) : (lx l p).length ≤ l.length := by
  have : ∀ n (l : Bs) p, (lexL n l p).length ≤ n := by
    intro n
    induction n with
    | zero => intro l p; simp [lexL]
    | succ n ih =>
      intro l p
      rcases l with _ | ⟨c, r⟩
      · simp [lexL]
      · unfold lexL
        split
        · exact Nat.le_succ_of_le (ih _ _)
        · split
          · split
            · exact Nat.le_succ_of_le (ih _ _)
            · simp
          · simp only [List.length_cons]; have := ih ((c :: r).drop (pieceL (c :: r)).2) (p + (pieceL (c :: r)).2); omega
  exact this _ l p

end Go.Proofs.Ytafpbdmggnfdnaa

/- The contracts of the lexer's leaves: small, great, digit, white, opens, closes (the program's and the reference's). -/
namespace Go.Proofs.Ytafpbdmggnfdnaa
open Go.RowKit
set_option linter.unusedVariables false

/-- The byte at a place of a text. -/
def byt (s : ByteArray) (i : Nat) : Int := ((s.toList.getD i 0).toNat : Int)
theorem byt_eq (s : ByteArray) (k : Nat) (h : k < s.size) : ((s[k]'h).toNat : Int) = byt s k := by
  unfold byt
  rw [ByteArray.toList_eq, List.getD_eq_getElem?_getD, List.getElem?_eq_getElem (by simpa using h)]
  rfl
theorem size_toList (s : ByteArray) : s.toList.length = s.size := by rw [ByteArray.toList_eq]; rfl
theorem drop_byt (s : ByteArray) (k : Nat) (h : k < s.size) : ∃ c : UInt8, (c.toNat : Int) = byt s k ∧ s.toList.drop k = c :: s.toList.drop (k + 1) := by
  have hl : k < s.toList.length := by rw [size_toList]; exact h
  refine ⟨s.toList[k], ?_, List.drop_eq_getElem_cons hl⟩
  unfold byt
  rw [List.getD_eq_getElem?_getD, List.getElem?_eq_getElem hl]
  rfl
theorem byt_ge (s : ByteArray) (k : Nat) : 0 ≤ byt s k ∧ byt s k ≤ 255 := by
  unfold byt
  have := (s.toList.getD k 0).toNat_lt
  omega

theorem ret_bool {a b : Bool} (h : a = b) : Ending.returned (.bool a) = .returned (.bool b) := by rw [h]
theorem ret_int {k : IntKind} {a b : Int} (h : a = b) : Ending.returned (.int k a) = .returned (.int k b) := by rw [h]
theorem hide {p : Prop} (h : p) : Hid p := h

theorem opensL_byt (s : ByteArray) (k : Nat) : opensL (s.toList.drop k) = (decide (k + 1 < s.size) && byt s k == 40 && byt s (k + 1) == 42) := by
  by_cases h : k + 1 < s.size
  · obtain ⟨c, hc, e1⟩ := drop_byt s k (by omega)
    obtain ⟨d, hd, e2⟩ := drop_byt s (k + 1) h
    rw [e1, e2, ← hc, ← hd]; simp [opensL, h]
  · by_cases h' : k < s.size
    · obtain ⟨c, hc, e1⟩ := drop_byt s k h'
      rw [e1, List.drop_of_length_le (by rw [size_toList]; omega)]; simp [opensL, h]
    · rw [List.drop_of_length_le (by rw [size_toList]; omega)]; simp [opensL, h]
theorem closesL_byt (s : ByteArray) (k : Nat) : closesL (s.toList.drop k) = (decide (k + 1 < s.size) && byt s k == 42 && byt s (k + 1) == 41) := by
  by_cases h : k + 1 < s.size
  · obtain ⟨c, hc, e1⟩ := drop_byt s k (by omega)
    obtain ⟨d, hd, e2⟩ := drop_byt s (k + 1) h
    rw [e1, e2, ← hc, ← hd]; simp [closesL, h]
  · by_cases h' : k < s.size
    · obtain ⟨c, hc, e1⟩ := drop_byt s k h'
      rw [e1, List.drop_of_length_le (by rw [size_toList]; omega)]; simp [closesL, h]
    · rw [List.drop_of_length_le (by rw [size_toList]; omega)]; simp [closesL, h]

set_option maxHeartbeats 400000 in
theorem small_any (c : Int) (w : World) : Calls Try.prog 69 #[.int .u8 c] w fun e w' => e = .returned (.bool (smallB c)) ∧ w = w' := by
  go_enter Try.func69, Try.ntmps69
  go_wp2
  all_goals
    go_ret
    exact ⟨ret_bool (by first | (subst_vars; rfl) | (rw [Bool.eq_iff_iff]; simp [smallB]; done) | (rw [Bool.eq_iff_iff]; simp [smallB]; omega)), rfl⟩

set_option maxHeartbeats 400000 in
theorem great_any (c : Int) (w : World) : Calls Try.prog 72 #[.int .u8 c] w fun e w' => e = .returned (.bool (greatB c)) ∧ w = w' := by
  go_enter Try.func72, Try.ntmps72
  go_wp2
  all_goals
    go_ret
    exact ⟨ret_bool (by first | (subst_vars; rfl) | (rw [Bool.eq_iff_iff]; simp [greatB]; done) | (rw [Bool.eq_iff_iff]; simp [greatB]; omega)), rfl⟩

set_option maxHeartbeats 400000 in
theorem digit_any (c : Int) (w : World) : Calls Try.prog 73 #[.int .u8 c] w fun e w' => e = .returned (.bool (digitB c)) ∧ w = w' := by
  go_enter Try.func73, Try.ntmps73
  go_wp2
  all_goals
    go_ret
    exact ⟨ret_bool (by first | (subst_vars; rfl) | (rw [Bool.eq_iff_iff]; simp [digitB]; done) | (rw [Bool.eq_iff_iff]; simp [digitB]; omega)), rfl⟩

set_option maxHeartbeats 400000 in
theorem rsmall_any (c : Int) (w : World) : Calls Try.prog 79 #[.int .u8 c] w fun e w' => e = .returned (.bool (smallB c)) ∧ w = w' := by
  go_enter Try.func79, Try.ntmps79
  go_wp2
  all_goals
    go_ret
    exact ⟨ret_bool (by first | (subst_vars; rfl) | (rw [Bool.eq_iff_iff]; simp [smallB]; done) | (rw [Bool.eq_iff_iff]; simp [smallB]; omega)), rfl⟩

set_option maxHeartbeats 400000 in
theorem rgreat_any (c : Int) (w : World) : Calls Try.prog 80 #[.int .u8 c] w fun e w' => e = .returned (.bool (greatB c)) ∧ w = w' := by
  go_enter Try.func80, Try.ntmps80
  go_wp2
  all_goals
    go_ret
    exact ⟨ret_bool (by first | (subst_vars; rfl) | (rw [Bool.eq_iff_iff]; simp [greatB]; done) | (rw [Bool.eq_iff_iff]; simp [greatB]; omega)), rfl⟩

set_option maxHeartbeats 400000 in
theorem rdigit_any (c : Int) (w : World) : Calls Try.prog 81 #[.int .u8 c] w fun e w' => e = .returned (.bool (digitB c)) ∧ w = w' := by
  go_enter Try.func81, Try.ntmps81
  go_wp2
  all_goals
    go_ret
    exact ⟨ret_bool (by first | (subst_vars; rfl) | (rw [Bool.eq_iff_iff]; simp [digitB]; done) | (rw [Bool.eq_iff_iff]; simp [digitB]; omega)), rfl⟩

set_option maxHeartbeats 400000 in
theorem rwhite_any (c : Int) (w : World) : Calls Try.prog 75 #[.int .u8 c] w fun e w' => e = .returned (.bool (whiteB c)) ∧ w = w' := by
  go_enter Try.func75, Try.ntmps75
  go_wp2
  all_goals
    go_ret
    exact ⟨ret_bool (by first | (subst_vars; rfl) | (rw [Bool.eq_iff_iff]; simp [whiteB]; done) | (rw [Bool.eq_iff_iff]; simp [whiteB]; omega)), rfl⟩

end Go.Proofs.Ytafpbdmggnfdnaa

/- Plain: nodes, parents that lead to roots, the least way to make two nodes alike. No program in sight. -/
namespace Go.Proofs.Ytafpbdmggnfdnaa
set_option linter.unusedVariables false

/-- A node: kind (1: a variable), name, arguments. -/
structure Nd where
  kind : Int
  name : ByteArray
  args : List Nat

/-- Parents that lead to roots: c is the root of each node, d falls on the way. -/
structure Forest (n : Nat) (par c d : Nat → Nat) : Prop where
  lt : ∀ i, i < n → par i < n
  same : ∀ i, i < n → c (par i) = c i
  root : ∀ i, i < n → par i = i → c i = i
  fall : ∀ i, i < n → par i ≠ i → d (par i) < d i

theorem Forest.top {n : Nat} {par c d : Nat → Nat} (h : Forest n par c d) (i : Nat) (hi : i < n) : c i < n ∧ par (c i) = c i ∧ c (c i) = c i := by
  obtain ⟨k, hk⟩ : ∃ k, d i = k := ⟨_, rfl⟩
  induction k using Nat.strongRecOn generalizing i with
  | ind k ih =>
    by_cases hp : par i = i
    · have := h.root i hi hp
      rw [this]; exact ⟨hi, hp, this⟩
    · have := ih (d (par i)) (by rw [← hk]; exact h.fall i hi hp) (par i) (h.lt i hi) rfl
      rw [h.same i hi] at this
      exact this

/-- A root is put under another one. -/
theorem Forest.link {n : Nat} {par c d : Nat → Nat} (h : Forest n par c d) (x y : Nat) (hx : x < n) (hy : y < n) (px : par x = x) (py : par y = y) (hne : x ≠ y) :
    Forest n (fun i => if i = x then y else par i) (fun i => if c i = x then y else c i) (fun i => if c i = x then d i + d y + 1 else d i) := by
  have cx := h.root x hx px
  have cy := h.root y hy py
  have hyx : ¬ y = x := fun e => hne e.symm
  refine ⟨fun i hi => ?_, fun i hi => ?_, fun i hi hp => ?_, fun i hi hp => ?_⟩
  · split
    · exact hy
    · exact h.lt i hi
  · by_cases e : i = x
    · subst e; simp [cx, cy, hyx]
    · simp [e, h.same i hi]
  · by_cases e : i = x
    · subst e; simp at hp; exact absurd hp hyx
    · simp [e] at hp
      have := h.root i hi hp
      simp [this, e]
  · by_cases e : i = x
    · subst e; simp [cx, cy, hyx]; omega
    · simp [e] at hp ⊢
      have := h.fall i hi hp
      rw [h.same i hi]
      split <;> omega

def Resp (n : Nat) (c e : Nat → Nat) : Prop := ∀ i j, i < n → j < n → c i = c j → e i = e j
def Heads (p q : Nd) : Prop := p.kind = q.kind ∧ p.name = q.name ∧ p.args.length = q.args.length
/-- What is alike has the same heads and alike arguments. -/
def Closed (N : List Nd) (e : Nat → Nat) : Prop :=
  ∀ (i j : Nat) (p q : Nd), N[i]? = some p → N[j]? = some q → e i = e j → p.kind ≠ 1 → q.kind ≠ 1 → Heads p q ∧ ∀ (k a b : Nat), p.args[k]? = some a → q.args[k]? = some b → e a = e b
/-- Nodes are made of earlier ones; a variable of none. -/
def Wf (N : List Nd) : Prop := ∀ (i : Nat) (p : Nd), N[i]? = some p → (∀ a ∈ p.args, a < i) ∧ (p.kind = 1 → p.args = [])
/-- Nothing stands within itself. -/
def Acyc (N : List Nd) (c : Nat → Nat) : Prop := ∃ h : Nat → Nat, Resp N.length c h ∧ ∀ (i : Nat) (p : Nd), N[i]? = some p → ∀ a ∈ p.args, h a < h i

structure Good (N : List Nd) (c0 : Nat → Nat) (a b : Nat) (e : Nat → Nat) : Prop where
  resp : Resp N.length c0 e
  ab : e a = e b
  closed : Closed N e
structure Least (N : List Nd) (c0 : Nat → Nat) (a b : Nat) (c : Nat → Nat) : Prop where
  good : Good N c0 a b c
  least : ∀ e, Good N c0 a b e → Resp N.length c e

/-- A set that has whatever stands within its members. -/
def Down (N : List Nd) (c : Nat → Nat) (D : Nat → Prop) : Prop :=
  (∀ i j, i < N.length → j < N.length → c i = c j → D i → D j) ∧ ∀ (i : Nat) (p : Nd), N[i]? = some p → D i → ∀ a ∈ p.args, D a

structure MInv (N : List Nd) (c0 : Nat → Nat) (a b : Nat) (c : Nat → Nat) (todo : List (Nat × Nat)) : Prop where
  up : ∀ e, Good N c0 a b e → Resp N.length c e ∧ ∀ t ∈ todo, e t.1 = e t.2
  near : ∀ (i j : Nat) (p q : Nd), N[i]? = some p → N[j]? = some q → c i = c j → p.kind ≠ 1 → q.kind ≠ 1 → Heads p q ∧
    ∀ (k x y : Nat), p.args[k]? = some x → q.args[k]? = some y → ∀ f, Resp N.length c f → (∀ t ∈ todo, f t.1 = f t.2) → f x = f y
  base : Resp N.length c0 c
  ab : ∀ f, Resp N.length c f → (∀ t ∈ todo, f t.1 = f t.2) → f a = f b
  lt : ∀ t ∈ todo, t.1 < N.length ∧ t.2 < N.length
  reach : ∀ D, Down N c D → D a → D b → (∀ t ∈ todo, D t.1 ∧ D t.2) ∧ ∀ i j, i < N.length → j < N.length → ¬ D i → c i = c j → c0 i = c0 j


theorem Wf.arg_lt {N : List Nd} (h : Wf N) {i : Nat} {p : Nd} (hi : N[i]? = some p) {k a : Nat} (ha : p.args[k]? = some a) : a < N.length := by
  have h1 := (h i p hi).1 a (List.mem_of_getElem? ha)
  have h2 := (List.getElem?_eq_some_iff.1 hi).1
  omega

theorem MInv.start {N : List Nd} {c0 : Nat → Nat} {a b : Nat} (hw : Wf N) (hc : Closed N c0) (ha : a < N.length) (hb : b < N.length) : MInv N c0 a b c0 [(a, b)] := by
  refine ⟨fun e h => ⟨h.resp, ?_⟩, fun i j p q hi hj hij hp hq => ?_, fun i j _ _ h => h, fun f _ h => h _ List.mem_cons_self, ?_, fun D _ ha hb => ⟨?_, fun _ _ _ _ _ h => h⟩⟩
  · intro t ht; simp at ht; subst ht; exact h.ab
  · obtain ⟨h1, h2⟩ := hc i j p q hi hj hij hp hq
    exact ⟨h1, fun k x y hx hy f hf _ => hf x y (hw.arg_lt hi hx) (hw.arg_lt hj hy) (h2 k x y hx hy)⟩
  · intro t ht; simp at ht; subst ht; exact ⟨ha, hb⟩
  · intro t ht; simp at ht; subst ht; exact ⟨ha, hb⟩

theorem MInv.done {N : List Nd} {c0 c : Nat → Nat} {a b : Nat} (h : MInv N c0 a b c []) : Least N c0 a b c := by
  refine ⟨⟨h.base, h.ab c (fun _ _ _ _ e => e) (by simp), fun i j p q hi hj hij hp hq => ?_⟩, fun e he => (h.up e he).1⟩
  obtain ⟨h1, h2⟩ := h.near i j p q hi hj hij hp hq
  exact ⟨h1, fun k x y hx hy => h2 k x y hx hy c (fun _ _ _ _ e => e) (by simp)⟩

/-- A pair that is alike already is dropped. The order of what is to be done is free: todo' is todo without it. -/
theorem MInv.skip {N : List Nd} {c0 c : Nat → Nat} {a b p q : Nat} {todo todo' : List (Nat × Nat)} (h : MInv N c0 a b c todo) (hs : ∀ t, t ∈ todo ↔ t = (p, q) ∨ t ∈ todo') (hpq : c p = c q) : MInv N c0 a b c todo' := by
  have hm : (p, q) ∈ todo := (hs _).2 (.inl rfl)
  have hl := h.lt _ hm
  have hf : ∀ f, Resp N.length c f → (∀ t ∈ todo', f t.1 = f t.2) → ∀ t ∈ todo, f t.1 = f t.2 := by
    intro f hf h' t ht
    rcases (hs t).1 ht with rfl | ht
    · exact hf p q hl.1 hl.2 hpq
    · exact h' t ht
  exact ⟨fun e he => ⟨(h.up e he).1, fun t ht => (h.up e he).2 t ((hs t).2 (.inr ht))⟩,
    fun i j p q hi hj hij hp hq => ⟨(h.near i j p q hi hj hij hp hq).1, fun k x y hx hy f hf1 hf2 => (h.near i j p q hi hj hij hp hq).2 k x y hx hy f hf1 (hf f hf1 hf2)⟩,
    h.base, fun f hf1 hf2 => h.ab f hf1 (hf f hf1 hf2), fun t ht => h.lt t ((hs t).2 (.inr ht)),
    fun D hD ha hb => ⟨fun t ht => (h.reach D hD ha hb).1 t ((hs t).2 (.inr ht)), (h.reach D hD ha hb).2⟩⟩

/-- The classes x and y are made one. -/
def join (c : Nat → Nat) (x y : Nat) : Nat → Nat := fun i => if c i = x then y else c i
theorem join_same {c : Nat → Nat} {x y i j : Nat} (h : c i = c j) : join c x y i = join c x y j := by unfold join; rw [h]
theorem join_cases {c : Nat → Nat} {x y i j : Nat} (h : join c x y i = join c x y j) : c i = c j ∨ (c i = x ∧ c j = y) ∨ (c i = y ∧ c j = x) := by
  unfold join at h
  split at h <;> split at h <;> simp_all
theorem join_xy {c : Nat → Nat} {x y p q : Nat} (hp : c p = x) (hq : c q = y) : join c x y p = join c x y q := by
  unfold join; rw [hp, hq]; simp
theorem join_resp {n : Nat} {c f : Nat → Nat} {x y p q : Nat} (hp : p < n) (hq : q < n) (cp : c p = x) (cq : c q = y) (hf : Resp n c f) (he : f p = f q) : Resp n (join c x y) f := by
  intro i j hi hj h
  rcases join_cases h with h | ⟨h1, h2⟩ | ⟨h1, h2⟩
  · exact hf i j hi hj h
  · rw [hf i p hi hp (h1.trans cp.symm), he, hf q j hq hj (cq.trans h2.symm)]
  · rw [hf i q hi hq (h1.trans cq.symm), ← he, hf p j hp hj (cp.trans h2.symm)]
theorem resp_join {n : Nat} {c f : Nat → Nat} {x y : Nat} (hf : Resp n (join c x y) f) : Resp n c f := fun i j hi hj h => hf i j hi hj (join_same h)

/-- What heads a class: a node of it, no variable if it has another. -/
structure Form (N : List Nd) (c : Nat → Nat) (x f : Nat) : Prop where
  lt : f < N.length
  cls : c f = x
  head : ∀ (j : Nat) (p q : Nd), N[j]? = some p → c j = x → p.kind ≠ 1 → N[f]? = some q → q.kind ≠ 1

/-- Two classes are made one; what follows of it is to be done. -/
theorem MInv.join {N : List Nd} {c0 c : Nat → Nat} {a b p q x y fx fy : Nat} {P Q : Nd} {todo todo' : List (Nat × Nat)} (hw : Wf N) (h : MInv N c0 a b c todo)
    (hs : ∀ t, t ∈ todo → t = (p, q) ∨ t ∈ todo') (hs' : ∀ t, t ∈ todo' → t ∈ todo ∨ (P.kind ≠ 1 ∧ Q.kind ≠ 1 ∧ ∃ (k u v : Nat), P.args[k]? = some u ∧ Q.args[k]? = some v ∧ t = (u, v)))
    (hpq : (p, q) ∈ todo) (cp : c p = x) (cq : c q = y) (Fx : Form N c x fx) (Fy : Form N c y fy) (hP : N[fx]? = some P) (hQ : N[fy]? = some Q)
    (hh : P.kind ≠ 1 → Q.kind ≠ 1 → Heads P Q ∧ ∀ (k u v : Nat), P.args[k]? = some u → Q.args[k]? = some v → (u, v) ∈ todo') :
    MInv N c0 a b (join c x y) todo' := by
  have hl := h.lt _ hpq
  have hold : ∀ f, Resp N.length (Go.Proofs.Ytafpbdmggnfdnaa.join c x y) f → (∀ t ∈ todo', f t.1 = f t.2) → Resp N.length c f ∧ ∀ t ∈ todo, f t.1 = f t.2 := by
    intro f h1 h2
    refine ⟨resp_join h1, fun t ht => ?_⟩
    rcases hs t ht with rfl | ht
    · exact h1 p q hl.1 hl.2 (join_xy cp cq)
    · exact h2 t ht
  have cross : ∀ (i j : Nat) (I J : Nd), N[i]? = some I → N[j]? = some J → c i = x → c j = y → I.kind ≠ 1 → J.kind ≠ 1 → Heads I J ∧
      ∀ (k u v : Nat), I.args[k]? = some u → J.args[k]? = some v → ∀ f, Resp N.length (Go.Proofs.Ytafpbdmggnfdnaa.join c x y) f → (∀ t ∈ todo', f t.1 = f t.2) → f u = f v := by
    intro i j I J hi hj ci cj hI hJ
    have hPk := Fx.head i I P hi ci hI hP
    have hQk := Fy.head j J Q hj cj hJ hQ
    obtain ⟨h1, h2⟩ := hh hPk hQk
    obtain ⟨e1, e2⟩ := h.near i fx I P hi hP (ci.trans Fx.cls.symm) hI hPk
    obtain ⟨g1, g2⟩ := h.near fy j Q J hQ hj (Fy.cls.trans cj.symm) hQk hJ
    refine ⟨⟨e1.1.trans (h1.1.trans g1.1), e1.2.1.trans (h1.2.1.trans g1.2.1), e1.2.2.trans (h1.2.2.trans g1.2.2)⟩, fun k u v hu hv f f1 f2 => ?_⟩
    have hku := (List.getElem?_eq_some_iff.1 hu).1
    obtain ⟨o1, o2⟩ := hold f f1 f2
    have hm : P.args[k]? = some (P.args[k]'(by have := e1.2.2; omega)) := List.getElem?_eq_getElem _
    have hn : Q.args[k]? = some (Q.args[k]'(by have := e1.2.2; have := h1.2.2; omega)) := List.getElem?_eq_getElem _
    rw [e2 k _ _ hu hm f o1 o2, f2 _ (h2 k _ _ hm hn), g2 k _ _ hn hv f o1 o2]
  refine ⟨fun e he => ?_, fun i j I J hi hj hij hI hJ => ?_, fun i j hi hj hij => join_same (h.base i j hi hj hij), fun f f1 f2 => ?_, fun t ht => ?_, fun D hD ha hb => ?_⟩
  · obtain ⟨u1, u2⟩ := h.up e he
    refine ⟨join_resp hl.1 hl.2 cp cq u1 (u2 _ hpq), fun t ht => ?_⟩
    rcases hs' t ht with ht | ⟨k1, k2, k, u, v, hu, hv, rfl⟩
    · exact u2 t ht
    · have hxy : e fx = e fy := by
        rw [u1 fx p Fx.lt hl.1 (Fx.cls.trans cp.symm), u2 _ hpq, u1 q fy hl.2 Fy.lt (cq.trans Fy.cls.symm)]
      exact (he.closed fx fy P Q hP hQ hxy k1 k2).2 k u v hu hv
  · rcases join_cases hij with e | ⟨e1, e2⟩ | ⟨e1, e2⟩
    · obtain ⟨n1, n2⟩ := h.near i j I J hi hj e hI hJ
      exact ⟨n1, fun k u v hu hv f f1 f2 => n2 k u v hu hv f (hold f f1 f2).1 (hold f f1 f2).2⟩
    · exact cross i j I J hi hj e1 e2 hI hJ
    · obtain ⟨n1, n2⟩ := cross j i J I hj hi e2 e1 hJ hI
      exact ⟨⟨n1.1.symm, n1.2.1.symm, n1.2.2.symm⟩, fun k u v hu hv f f1 f2 => (n2 k v u hv hu f f1 f2).symm⟩
  · exact h.ab f (hold f f1 f2).1 (hold f f1 f2).2
  · rcases hs' t ht with ht | ⟨_, _, k, u, v, hu, hv, rfl⟩
    · exact h.lt t ht
    · exact ⟨hw.arg_lt hP hu, hw.arg_lt hQ hv⟩
  · have hD' : Down N c D := ⟨fun i j hi hj hij => hD.1 i j hi hj (join_same hij), hD.2⟩
    obtain ⟨r1, r2⟩ := h.reach D hD' ha hb
    have hDp := r1 _ hpq
    have hDx : D fx := hD'.1 p fx hl.1 Fx.lt (cp.trans Fx.cls.symm) hDp.1
    have hDy : D fy := hD'.1 q fy hl.2 Fy.lt (cq.trans Fy.cls.symm) hDp.2
    refine ⟨fun t ht => ?_, fun i j hi hj hn hij => ?_⟩
    · rcases hs' t ht with ht | ⟨_, _, k, u, v, hu, hv, rfl⟩
      · exact r1 t ht
      · exact ⟨hD.2 fx P hP hDx u (List.mem_of_getElem? hu), hD.2 fy Q hQ hDy v (List.mem_of_getElem? hv)⟩
    · rcases join_cases hij with e | ⟨e1, e2⟩ | ⟨e1, e2⟩
      · exact r2 i j hi hj hn e
      · exact absurd (hD'.1 p i hl.1 hi (cp.trans e1.symm) hDp.1) hn
      · exact absurd (hD'.1 q i hl.2 hi (cq.trans e1.symm) hDp.2) hn

/-- Heads that differ: nothing makes them alike. -/
theorem MInv.clash {N : List Nd} {c0 c : Nat → Nat} {a b p q x y fx fy : Nat} {P Q : Nd} {todo : List (Nat × Nat)} (h : MInv N c0 a b c todo) (hpq : (p, q) ∈ todo) (cp : c p = x) (cq : c q = y)
    (Fx : Form N c x fx) (Fy : Form N c y fy) (hP : N[fx]? = some P) (hQ : N[fy]? = some Q) (hPk : P.kind ≠ 1) (hQk : Q.kind ≠ 1) (hh : ¬ Heads P Q) (e : Nat → Nat) : ¬ Good N c0 a b e := by
  intro he
  obtain ⟨u1, u2⟩ := h.up e he
  have hl := h.lt _ hpq
  have hxy : e fx = e fy := by
    rw [u1 fx p Fx.lt hl.1 (Fx.cls.trans cp.symm), u2 _ hpq, u1 q fy hl.2 Fy.lt (cq.trans Fy.cls.symm)]
  exact hh (he.closed fx fy P Q hP hQ hxy hPk hQk).1

/-- Behind it nothing stands within itself, if that is so of what stands within the two. -/
theorem acyc_after {N : List Nd} {c0 c : Nat → Nat} {a b : Nat} (hw : Wf N) (h0 : Acyc N c0) (h : MInv N c0 a b c []) (D : Nat → Prop) [DecidablePred D] (hD : Down N c D) (ha : D a) (hb : D b)
    (k : Nat → Nat) (M : Nat) (hk : Resp N.length c k) (hM : ∀ i, k i < M) (hf : ∀ (i : Nat) (p : Nd), N[i]? = some p → D i → ∀ x ∈ p.args, k x < k i) : Acyc N c := by
  obtain ⟨g, g1, g2⟩ := h0
  obtain ⟨_, r⟩ := h.reach D hD ha hb
  refine ⟨fun i => if D i then k i else M + g i, fun i j hi hj hij => ?_, fun i p hp x hx => ?_⟩
  · simp only
    by_cases hd : D i
    · rw [if_pos hd, if_pos (hD.1 i j hi hj hij hd)]; exact hk i j hi hj hij
    · have hd' : ¬ D j := fun h' => hd (hD.1 j i hj hi hij.symm h')
      rw [if_neg hd, if_neg hd', g1 i j hi hj (r i j hi hj hd hij)]
  · simp only
    by_cases hd : D i
    · rw [if_pos hd, if_pos (hD.2 i p hp hd x hx)]; exact hf i p hp hd x hx
    · rw [if_neg hd]
      split
      · have := hM x; omega
      · have := g2 i p hp x hx; omega

/-- All variables. -/
def VarCls (N : List Nd) (c : Nat → Nat) (i : Nat) : Prop := ∀ (j : Nat) (p : Nd), N[j]? = some p → c j = c i → p.kind = 1
/-- No variable of c0 has become anything. -/
def Still (N : List Nd) (c0 e : Nat → Nat) : Prop := ∀ i j, i < N.length → j < N.length → VarCls N c0 i → e i = e j → c0 i = c0 j
def AlikeIn (N : List Nd) (c0 : Nat → Nat) (a b : Nat) : Prop := ∃ e, Good N c0 a b e ∧ Still N c0 e
theorem Still.refl (N : List Nd) (c : Nat → Nat) : Still N c c := fun _ _ _ _ _ h => h
theorem Least.alike_iff {N : List Nd} {c0 c : Nat → Nat} {a b : Nat} (h : Least N c0 a b c) : AlikeIn N c0 a b ↔ Still N c0 c := by
  constructor
  · rintro ⟨e, he, hs⟩ i j hi hj hv hij
    exact hs i j hi hj hv (h.least e he i j hi hj hij)
  · intro hs; exact ⟨c, h.good, hs⟩
theorem Least.same {N : List Nd} {c0 c c' c1 : Nat → Nat} {a b : Nat} (h : Least N c0 a b c) (h' : Least N c1 a b c') (h01 : Resp N.length c0 c1) (h10 : Resp N.length c1 c0) : Resp N.length c c' ∧ Resp N.length c' c := by
  refine ⟨h.least c' ⟨fun i j hi hj hij => h'.good.resp i j hi hj (h01 i j hi hj hij), h'.good.ab, h'.good.closed⟩, h'.least c ⟨fun i j hi hj hij => h.good.resp i j hi hj (h10 i j hi hj hij), h.good.ab, h.good.closed⟩⟩
theorem Good.of {N : List Nd} {c0 c1 e : Nat → Nat} {a b : Nat} (h : Good N c0 a b e) (h10 : Resp N.length c1 c0) : Good N c1 a b e := ⟨fun i j hi hj hij => h.resp i j hi hj (h10 i j hi hj hij), h.ab, h.closed⟩
theorem Acyc.of {N : List Nd} {c c' : Nat → Nat} (h : Acyc N c) (h' : Resp N.length c' c) : Acyc N c' := by
  obtain ⟨g, g1, g2⟩ := h
  exact ⟨g, fun i j hi hj hij => g1 i j hi hj (h' i j hi hj hij), g2⟩
/-- Two that are alike already stand for the same: to make them one makes no cycle. -/
theorem Still.step {N : List Nd} {c0 c : Nat → Nat} {x y : Nat} (h : Still N c0 c) (hb : Resp N.length c0 c) (hx : ∀ (i : Nat) (p : Nd), N[i]? = some p → c i = x → ¬ VarCls N c0 i) (hy : ∀ (i : Nat) (p : Nd), N[i]? = some p → c i = y → ¬ VarCls N c0 i) : Still N c0 (join c x y) := by
  intro i j hi hj hv hij
  rcases join_cases hij with e | ⟨e1, e2⟩ | ⟨e1, e2⟩
  · exact h i j hi hj hv e
  · exact absurd hv (hx i _ (List.getElem?_eq_getElem hi) e1)
  · exact absurd hv (hy i _ (List.getElem?_eq_getElem hi) e1)
end Go.Proofs.Ytafpbdmggnfdnaa

/- The program's store in memory: what lies where; what a call may touch; find, Len, known. -/
namespace Go.Proofs.Ytafpbdmggnfdnaa
open Go.RowKit
set_option linter.unusedVariables false

/-- Only the blocks of F, and new ones, may have changed. -/
structure Only (F : Nat → Prop) (w w' : World) : Prop where
  os : w'.os = w.os
  tape : w'.tape = w.tape
  output : w'.output = w.output
  size : w.heap.size ≤ w'.heap.size
  block : ∀ i, i < w.heap.size → ¬ F i → w'.heap[i]? = w.heap[i]?

section
variable {F G : Nat → Prop} {w w' w'' : World} {B : Nat}
theorem Only.refl (F : Nat → Prop) (w : World) : Only F w w := ⟨rfl, rfl, rfl, Nat.le_refl _, fun _ _ _ => rfl⟩
theorem Only.trans (h : Only F w w') (k : Only F w' w'') : Only F w w'' :=
  ⟨k.os.trans h.os, k.tape.trans h.tape, k.output.trans h.output, Nat.le_trans h.size k.size, fun i hi hn => (k.block i (Nat.lt_of_lt_of_le hi h.size) hn).trans (h.block i hi hn)⟩
/-- The second may touch what is new for the first. -/
theorem Only.then_ (h : Only F w w') (k : Only G w' w'') (hG : ∀ i, G i → i < w.heap.size → F i) : Only F w w'' :=
  ⟨k.os.trans h.os, k.tape.trans h.tape, k.output.trans h.output, Nat.le_trans h.size k.size, fun i hi hn => (k.block i (Nat.lt_of_lt_of_le hi h.size) (fun hg => hn (hG i hg hi))).trans (h.block i hi hn)⟩
theorem Only.mono (h : Only F w w') (hF : ∀ i, i < w.heap.size → F i → G i) : Only G w w' := ⟨h.os, h.tape, h.output, h.size, fun i hi hn => h.block i hi (fun hf => hn (hF i hi hf))⟩
theorem Only.drew (h : Only F w w') : Only F w w'.drew := ⟨h.os, h.tape, h.output, h.size, h.block⟩
theorem Only.drewN (h : Only F w w') (n : Nat) : Only F w (w'.drewN n) := ⟨h.os, h.tape, h.output, h.size, h.block⟩
theorem Only.alloc (h : Only F w w') (o : Obj) : Only F w (w'.alloc o) :=
  ⟨h.os, h.tape, h.output, Nat.le_trans h.size (by simp), fun i hi hn => (Below.heap_alloc w' o i (Nat.lt_of_lt_of_le hi h.size)).trans (h.block i hi hn)⟩
theorem Only.setCell (h : Only F w w') {p : Addr} (hp : F p.block ∨ w.heap.size ≤ p.block) (u : Value) : Only F w (w'.setCell p u) :=
  ⟨h.os, h.tape, h.output, by simpa [World.setCell] using h.size, fun i hi hn => (Below.heap_setCell w' p u i (by
    rintro rfl
    rcases hp with hp | hp
    · exact hn hp
    · omega)).trans (h.block i hi hn)⟩
theorem Only.grown {row : Option Nat} (h : Only F w w') (hg : w'.grownBy w'' row) (hr : ∀ b, row = some b → F b ∨ w.heap.size ≤ b) : Only F w w'' :=
  ⟨hg.os.trans h.os, hg.tape.trans h.tape, hg.output.trans h.output, Nat.le_trans h.size hg.size, fun i hi hn => (hg.block i (Nat.lt_of_lt_of_le hi h.size) (by
    intro e
    rcases hr i e.symm with h1 | h1
    · exact hn h1
    · omega)).trans (h.block i hi hn)⟩
theorem Only.of_below (h : Below w.heap.size w w') (F : Nat → Prop) : Only F w w' := ⟨h.os, h.tape, h.output, h.size, fun i hi _ => h.block i hi⟩
theorem Only.below (h : Only F w w') (hB : B ≤ w.heap.size) (hF : ∀ i, i < w.heap.size → F i → B ≤ i) : Below B w w' :=
  ⟨h.os, h.tape, h.output, h.size, fun i hi => h.block i (by omega) (fun hf => by have := hF i (by omega) hf; omega)⟩
theorem Only.below_trans {a : World} (h0 : Below B a w) (h : Only F w w') (hF : ∀ i, i < w.heap.size → F i → B ≤ i) (hB : B ≤ w.heap.size) : Below B a w' := h0.trans (h.below hB hF)
theorem Only.cell (h : Only F w w') {p : Addr} (hp : p.block < w.heap.size) (hn : ¬ F p.block) : w'.cell? p = w.cell? p := World.cell?_of_block (w := w) (h.block p.block hp hn)
theorem Only.frozen (h : Only F w w') {p : Addr} (hp : p.block < w.heap.size) (hn : ¬ F p.block) : w'.frozen? p = w.frozen? p := World.frozen?_of_block (w := w) (h.block p.block hp hn)
end

/-- A row of one's own lies where it lay if its block is as it was. -/
theorem own_keep {w w' : World} {base : Nat} {e : TypeId} {size n : Nat} {v : Value} {xs : List Value} (h : w.ownsRow base e size v n xs) (hk : ∀ b, v.ownBlock = some b → w'.heap[b]? = w.heap[b]?) : w'.ownsRow base e size v n xs := by
  refine ⟨h.1, ?_⟩
  rcases h.2 with h1 | ⟨g, cap, cur, h1, h2, h3, h4⟩
  · exact .inl h1
  · exact .inr ⟨g, cap, cur, h1, h2, (hk g (by rw [h1]; rfl)).trans h3, h4⟩
theorem own_only {F : Nat → Prop} {w w' : World} {base : Nat} {e : TypeId} {size n : Nat} {v : Value} {xs : List Value} (h : w.ownsRow base e size v n xs) (ho : Only F w w') (hn : ∀ b, v.ownBlock = some b → ¬ F b) : w'.ownsRow base e size v n xs :=
  own_keep h fun b hb => ho.block b (h.lt b hb).2 (hn b hb)
theorem own_base {w : World} {base base' : Nat} {e : TypeId} {size n : Nat} {v : Value} {xs : List Value} (h : w.ownsRow base e size v n xs) (hb : base' ≤ base) : w.ownsRow base' e size v n xs := by
  refine ⟨h.1, ?_⟩
  rcases h.2 with h1 | ⟨g, cap, cur, h1, h2, h3⟩
  · exact .inl h1
  · exact .inr ⟨g, cap, cur, h1, Nat.le_trans hb h2, h3⟩
theorem own_pos {w : World} {base : Nat} {e : TypeId} {size n : Nat} {v : Value} {xs : List Value} (h : w.ownsRow base e size v n xs) (hn : 0 < n) : ∃ g cap, v = .slice (some ⟨g, 0, none⟩) n cap ∧ n ≤ cap := by
  rcases h.2 with ⟨_, h1⟩ | ⟨g, cap, cur, h1, _, _, h2, _⟩
  · omega
  · exact ⟨g, cap, h1, h2⟩
theorem own_len {w : World} {base : Nat} {e : TypeId} {size n : Nat} {v : Value} {xs : List Value} (h : w.ownsRow base e size v n xs) : ∃ A cap, v = .slice A n cap ∧ n ≤ cap ∧ cap ≤ maxLen := by
  rcases h.2 with ⟨h1, h2⟩ | ⟨g, cap, cur, h1, _, _, h2, h3, _⟩
  · exact ⟨none, 0, by rw [h1, h2], by omega, by simp⟩
  · exact ⟨_, cap, h1, h2, h3⟩
theorem own_ne {w : World} {base base' : Nat} {e e' : TypeId} {size size' n n' : Nat} {v v' : Value} {xs xs' : List Value} (h : w.ownsRow base e size v n xs) (h' : w.ownsRow base' e' size' v' n' xs') (hne : e ≠ e') (b : Nat) (hb : v.ownBlock = some b) : v'.ownBlock ≠ some b := by
  intro hb'
  rcases h.2 with ⟨rfl, _⟩ | ⟨g, cap, cur, rfl, _, hg, _⟩
  · cases hb
  · rcases h'.2 with ⟨rfl, _⟩ | ⟨g', cap', cur', rfl, _, hg', _⟩
    · cases hb'
    · simp [Value.ownBlock] at hb hb'
      subst hb; subst hb'
      rw [hg] at hg'
      injection hg' with hg'
      injection hg' with _ ht
      exact hne ht
theorem own_blk {w : World} {base : Nat} {e t : TypeId} {size n : Nat} {v : Value} {xs : List Value} {g : Nat} {cs : Array Value} (h : w.ownsRow base e size v n xs) (hg : w.heap[g]? = some (.cells cs t (0, 0))) (hne : e ≠ t) : v.ownBlock ≠ some g := by
  rcases h.2 with ⟨rfl, _⟩ | ⟨g', cap, cur, rfl, _, hg', _⟩
  · simp [Value.ownBlock]
  · intro e1
    simp [Value.ownBlock] at e1
    subst e1
    rw [hg] at hg'
    injection hg' with hg'
    injection hg' with _ ht
    exact hne ht.symm

/-- The program's store: nodes, what each was put under, ranks, forms. -/
structure PS where
  nodes : List Nd
  above : List Nat
  ranks : List Nat
  forms : List Nat
/-- Where it lies: its block, its four slices, where the arguments of each node lie. -/
structure Lay where
  g : Nat
  vn : Value
  va : Value
  vr : Value
  vf : Value
  ad : List (Option Addr × Nat)
def nats (l : List Nat) : List Value := l.map fun (n : Nat) => Value.int .i64 (n : Int)
def ndCell (p : Nd) (a : Option Addr × Nat) : List Value := [.int .i64 p.kind, .string p.name, .slice a.1 p.args.length a.2]
def ndCells (N : List Nd) (ad : List (Option Addr × Nat)) : List Value := (N.zip ad).flatMap fun x => ndCell x.1 x.2
/-- A slice of integers, of which only the cells count. -/
def Ints (w : World) (A : Option Addr) (xs : List Int) : Prop :=
  xs ≠ [] → ∃ b off, A = some ⟨b, off, none⟩ ∧ b < w.heap.size ∧ ∀ (k : Nat) (x : Int), xs[k]? = some x → w.cell? ⟨b, off + k, none⟩ = some (.int .i64 x)
def cast (l : List Nat) : List Int := l.map fun (n : Nat) => (n : Int)
def Nats (w : World) (A : Option Addr) (xs : List Nat) : Prop := Ints w A (cast xs)
theorem Ints.at_ {w : World} {A : Option Addr} {xs : List Int} (h : Ints w A xs) (k : Nat) (hk : k < xs.length) : ∃ b off, A = some ⟨b, off, none⟩ ∧ b < w.heap.size ∧ w.cell? ⟨b, off + k, none⟩ = some (.int .i64 xs[k]) := by
  obtain ⟨b, off, e, hb, hc⟩ := h (by intro e; subst e; simp at hk)
  exact ⟨b, off, e, hb, hc k _ (List.getElem?_eq_getElem hk)⟩
theorem Ints.keep {w w' : World} {A : Option Addr} {xs : List Int} (h : Ints w A xs) (hs : w.heap.size ≤ w'.heap.size) (hk : ∀ a p : Addr, A = some a → p.block = a.block → p.block < w.heap.size → w'.cell? p = w.cell? p) : Ints w' A xs := by
  intro hne
  obtain ⟨b, off, e, hb, hc⟩ := h hne
  exact ⟨b, off, e, by omega, fun k x hx => (hk _ ⟨b, off + k, none⟩ e rfl hb).trans (hc k x hx)⟩
theorem Ints.only {F : Nat → Prop} {w w' : World} {A : Option Addr} {xs : List Int} (h : Ints w A xs) (ho : Only F w w') (hn : ∀ a, A = some a → ¬ F a.block) : Ints w' A xs :=
  h.keep ho.size fun a p ha hp hlt => ho.cell hlt (by rw [hp]; exact hn a ha)
theorem Ints.below {w w' : World} {A : Option Addr} {xs : List Int} (h : Ints w A xs) (hb : Below w.heap.size w w') : Ints w' A xs := h.keep hb.size fun _ _ _ _ hlt => hb.cell hlt
theorem Ints.drewN {w : World} {A : Option Addr} {xs : List Int} (h : Ints w A xs) (n : Nat) : Ints (w.drewN n) A xs := h
/-- What a store may write. -/
def Lay.fp (L : Lay) (b : Nat) : Prop := b = L.g ∨ L.vn.ownBlock = some b ∨ L.va.ownBlock = some b ∨ L.vr.ownBlock = some b ∨ L.vf.ownBlock = some b
/-- What a store may write where no node is added. -/
def Lay.fq (L : Lay) (b : Nat) : Prop := L.va.ownBlock = some b ∨ L.vr.ownBlock = some b ∨ L.vf.ownBlock = some b
theorem Lay.fq_fp {L : Lay} {b : Nat} (h : L.fq b) : L.fp b := .inr (.inr h)

structure St (w : World) (base : Nat) (L : Lay) (S : PS) : Prop where
  blk : w.heap[L.g]? = some (.cells #[L.vn, L.va, L.vr, L.vf] 94 (0, 0))
  low : base ≤ L.g
  nodes : w.ownsRow base 73 3 L.vn S.nodes.length (ndCells S.nodes L.ad)
  above : w.ownsRow base 3 1 L.va S.nodes.length (nats S.above)
  ranks : w.ownsRow base 3 1 L.vr S.nodes.length (nats S.ranks)
  forms : w.ownsRow base 3 1 L.vf S.nodes.length (nats S.forms)
  ar : ∀ b, L.va.ownBlock = some b → L.vr.ownBlock ≠ some b
  af : ∀ b, L.va.ownBlock = some b → L.vf.ownBlock ≠ some b
  rf : ∀ b, L.vr.ownBlock = some b → L.vf.ownBlock ≠ some b
  ad : L.ad.length = S.nodes.length
  args : ∀ (i : Nat) (p : Nd) (a : Option Addr × Nat), S.nodes[i]? = some p → L.ad[i]? = some a → Nats w a.1 p.args ∧ ∀ x, a.1 = some x → x.block < w.heap.size ∧ ¬ L.fp x.block
  many : S.nodes.length ≤ 1000000
  few : ∀ (i : Nat) (p : Nd), S.nodes[i]? = some p → p.args.length ≤ 1000000

section
variable {w w' : World} {base : Nat} {L : Lay} {S : PS}
theorem St.la (h : St w base L S) : S.above.length = S.nodes.length := by have := h.above.1; simpa [nats] using this
theorem St.lr (h : St w base L S) : S.ranks.length = S.nodes.length := by have := h.ranks.1; simpa [nats] using this
theorem St.lf (h : St w base L S) : S.forms.length = S.nodes.length := by have := h.forms.1; simpa [nats] using this
theorem St.gcell (h : St w base L S) : w.cell? ⟨L.g, 0, none⟩ = some L.vn ∧ w.cell? ⟨L.g, 1, none⟩ = some L.va ∧ w.cell? ⟨L.g, 2, none⟩ = some L.vr ∧ w.cell? ⟨L.g, 3, none⟩ = some L.vf := by
  refine ⟨?_, ?_, ?_, ?_⟩ <;> (rw [cell_of_row _ _ _ _ _ _ h.blk]; rfl)
theorem St.glt (h : St w base L S) : L.g < w.heap.size := (Array.getElem?_eq_some_iff.1 h.blk).1
theorem St.fp_lt (h : St w base L S) (b : Nat) (hb : L.fp b) : base ≤ b ∧ b < w.heap.size := by
  rcases hb with rfl | hb | hb | hb | hb
  · exact ⟨h.low, h.glt⟩
  · exact h.nodes.lt b hb
  · exact h.above.lt b hb
  · exact h.ranks.lt b hb
  · exact h.forms.lt b hb
theorem nats_at {l : List Nat} {i : Nat} (hi : i < l.length) : (nats l)[i]? = some (.int .i64 (l[i] : Int)) := by
  unfold nats; rw [List.getElem?_map, List.getElem?_eq_getElem hi]; rfl
theorem own_nat {base e n : Nat} {v : Value} {l : List Nat} (h : w.ownsRow base e 1 v n (nats l)) {b cap m : Nat} (hv : v = .slice (some ⟨b, 0, none⟩) m cap) (i : Nat) (hi : i < l.length) : w.cell? ⟨b, i, none⟩ = some (.int .i64 (l[i] : Int)) := by
  have := h.cells (g := b) (by rw [hv]; rfl) i _ (nats_at hi)
  rcases Nat.eq_zero_or_pos i with rfl | hp
  · simpa [Addr.add] using this
  · simpa [Addr.add, show ¬ i = 0 by omega] using this
/-- All that lies elsewhere may change. -/
theorem St.only {F : Nat → Prop} (h : St w base L S) (ho : Only F w w') (hF : ∀ b, F b → b < w.heap.size → ¬ L.fp b) (hA : ∀ (i : Nat) (a : Option Addr × Nat), L.ad[i]? = some a → ∀ x, a.1 = some x → ¬ F x.block) : St w' base L S := by
  have hn : ∀ b, L.fp b → ¬ F b := fun b hb hf => hF b hf (h.fp_lt b hb).2 hb
  refine ⟨(ho.block L.g h.glt (hn _ (.inl rfl))).trans h.blk, h.low, own_only h.nodes ho fun b hb => hn b (.inr (.inl hb)), own_only h.above ho fun b hb => hn b (.inr (.inr (.inl hb))), own_only h.ranks ho fun b hb => hn b (.inr (.inr (.inr (.inl hb)))), own_only h.forms ho fun b hb => hn b (.inr (.inr (.inr (.inr hb)))),
    h.ar, h.af, h.rf, h.ad, fun i p a hi ha => ⟨Ints.only (h.args i p a hi ha).1 ho (hA i a ha), fun x hx => ⟨Nat.lt_of_lt_of_le ((h.args i p a hi ha).2 x hx).1 ho.size, ((h.args i p a hi ha).2 x hx).2⟩⟩, h.many, h.few⟩
theorem St.later (h : St w base L S) (hb : Below w.heap.size w w') : St w' base L S :=
  h.only (Only.of_below hb (fun _ => False)) (fun _ hf => hf.elim) (fun _ _ _ _ _ hf => hf.elim)
end

/-- What the parents are. -/
def par (l : List Nat) (i : Nat) : Nat := l[i]?.getD 0
theorem par_at {l : List Nat} {i : Nat} (hi : i < l.length) : l[i] = par l i := by unfold par; rw [List.getElem?_eq_getElem hi]; rfl

set_option maxHeartbeats 1000000 in
theorem find_any {w : World} {base : Nat} {L : Lay} {S : PS} {c d : Nat → Nat} (h : St w base L S) (hf : Forest S.nodes.length (par S.above) c d) (i : Nat) (hi : i < S.nodes.length) :
    Calls Try.prog 59 #[.pointer (some ⟨L.g, 0, none⟩), .int .i64 (i : Int)] w fun e w' => e = .returned (.int .i64 (c i : Int)) ∧ w = w' := by
  obtain ⟨ba, ca, hva, hca⟩ := own_pos h.above (by omega)
  have hg := h.gcell.2.1
  rw [hva] at hg
  have hm := h.many
  have hla := h.la
  have HA := hide (fun k (hk : k < S.nodes.length) => own_nat h.above hva k (by omega))
  clear hva
  go_enter Try.func59, Try.ntmps59
  go_wp2
  go_loop [1] (fun v => ∃ k : Nat, v = .int .i64 k ∧ k < S.nodes.length ∧ Hid (c k = c i)) (fun v => d (intOf v).toNat)
  case atStart => exact ⟨i, rfl, hi, hide rfl⟩
  case round =>
    obtain ⟨k, rfl, hk, HC⟩ := hrel
    have hcell := HA.out k hk
    obtain ⟨m, hm0⟩ : ∃ m, par S.above k = m := ⟨_, rfl⟩
    rw [par_at (by omega), hm0] at hcell
    have hmn := hf.lt k hk
    have Hsame := hide (hf.same k hk)
    have Hroot := hide (hf.root k hk)
    have Hfall := hide (hf.fall k hk)
    rw [hm0] at hmn Hsame Hroot Hfall
    clear hm0
    by_cases he : m = k
    · subst he
      have hne : ((m : Int) != (m : Int)) = false := by simp
      have Hm : Hid (m = c i) := hide ((Hroot.out rfl).symm.trans HC.out)
      clear Hroot Hsame Hfall
      go_wp2
      go_ret
      exact ⟨ret_int (by rw [← Hm.out]), rfl⟩
    · have hne : ((m : Int) != (k : Int)) = true := by simp; omega
      go_wp2
      go_round
      case rel => exact ⟨m, rfl, hmn, hide (Hsame.out.trans HC.out)⟩
      case measure => simp only [intOf, Int.toNat_natCast]; exact Hfall.out he

theorem len_any {w : World} {base : Nat} {L : Lay} {S : PS} (h : St w base L S) :
    Calls Try.prog 32 #[.pointer (some ⟨L.g, 0, none⟩)] w fun e w' => e = .returned (.int .i64 (S.nodes.length : Int)) ∧ w = w' := by
  obtain ⟨A, cap, hv, _, _⟩ := own_len h.nodes
  have hg := h.gcell.1
  rw [hv] at hg
  clear hv
  go_enter Try.func32, Try.ntmps32
  go_wp2
  go_ret
  exact ⟨rfl, rfl⟩

def allIn (n : Nat) (xs : List Int) : Bool := xs.all fun x => decide (0 ≤ x ∧ x < (n : Int))
set_option maxHeartbeats 1000000 in
theorem known_any {w : World} {base : Nat} {L : Lay} {S : PS} (h : St w base L S) (A : Option Addr) (c : Nat) (xs : List Int) (hx : Ints w A xs) (hl : xs.length ≤ 1000000) :
    Calls Try.prog 37 #[.pointer (some ⟨L.g, 0, none⟩), .slice A xs.length c] w fun e w' => e = .returned (.bool (allIn S.nodes.length xs)) ∧ w = w' := by
  obtain ⟨A0, cap, hv, _, _⟩ := own_len h.nodes
  have hg := h.gcell.1
  rw [hv] at hg
  have hm := h.many
  clear hv
  go_enter Try.func37, Try.ntmps37
  go_wp2
  go_loop [9] (fun v => ∃ k : Nat, v = .int .i64 k ∧ k ≤ xs.length ∧ Hid (allIn S.nodes.length (xs.take k) = true)) (fun v => xs.length - (intOf v).toNat)
  case atStart => exact ⟨0, rfl, by omega, hide (by simp [allIn])⟩
  case round =>
    obtain ⟨k, rfl, hk, HA⟩ := hrel
    by_cases hlt : k < xs.length
    · obtain ⟨b, off, rfl, hb, hc⟩ := hx.at_ k hlt
      obtain ⟨x, hx0⟩ : ∃ x, xs[k] = x := ⟨_, rfl⟩
      rw [hx0] at hc
      have HX := hide hx0
      clear hx0
      by_cases hin : 0 ≤ x ∧ x < (S.nodes.length : Int)
      · obtain ⟨h0, h1⟩ := hin
        have k1 : decide (x < 0) = false := by simp; omega
        have k2 : decide ((S.nodes.length : Int) ≤ x) = false := by simp; omega
        go_wp2
        go_round
        case rel => exact ⟨k + 1, by go_num, by omega, hide (by rw [List.take_succ_eq_append_getElem hlt, HX.out]; have := HA.out; unfold allIn at this ⊢; rw [List.all_append, this]; simp [h0, h1])⟩
        case measure => simp [intOf]; omega
      · have hno : allIn S.nodes.length xs = false := by
          unfold allIn
          rw [List.all_eq_false]
          exact ⟨x, by rw [← HX.out]; exact List.getElem_mem hlt, by simpa using hin⟩
        have HN := hide hno
        clear hno
        rcases (show x < 0 ∨ (0 ≤ x ∧ (S.nodes.length : Int) ≤ x) by omega) with h0 | ⟨h0, h1⟩
        · have k1 : decide (x < 0) = true := by simpa using h0
          go_wp2
          go_ret
          exact ⟨ret_bool HN.out.symm, rfl⟩
        · have k1 : decide (x < 0) = false := by simpa using h0
          have k2 : decide ((S.nodes.length : Int) ≤ x) = true := by simpa using h1
          go_wp2
          go_ret
          exact ⟨ret_bool HN.out.symm, rfl⟩
    · go_wp2
      go_ret
      exact ⟨ret_bool (by rw [← HA.out, List.take_of_length_le (by omega)]), rfl⟩
end Go.Proofs.Ytafpbdmggnfdnaa
