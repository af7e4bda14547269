/- Plain: the tokens behind an edit; what is kept at the front and at the end. No program in sight. -/
import Derived.Test.YtniofjeefphlmaaPlainAgain
import Derived.Test.YtniofjeefphlmaaPlainWhole
namespace Go.Proofs.Ytniofjeefphlmaa
set_option linter.unusedVariables false

/-- The text with an edit made. -/
def edit (s : Bs) (f t : Nat) (more : Bs) : Bs := s.take f ++ more ++ s.drop t
def isFront (f : Int) (t : Tk) : Bool := decide (t.2.2 < f - 1)
/-- How many tokens end more than a byte ahead of a place. -/
def frontN (f : Int) (xs : List Tk) : Nat := (xs.filter (isFront f)).length
/-- How many, at most n, of two rows that are read from their ends are the same, moved. -/
def endL (to by_ : Int) : Nat → List Tk → List Tk → Nat
  | n + 1, x :: xs, y :: ys => if x.2.1 < to then 0 else if (x.1, x.2.1 + by_, x.2.2 + by_) = y then 1 + endL to by_ n xs ys else 0
  | _, _, _ => 0
def endN (to by_ : Int) (f : Nat) (xs ys : List Tk) : Nat := endL to by_ (min (xs.length - f) (ys.length - f)) xs.reverse ys.reverse
theorem endL_le (to by_ : Int) : ∀ (n : Nat) (xs ys : List Tk), endL to by_ n xs ys ≤ n := by
  intro n
  induction n with
  | zero => intro xs ys; simp [endL]
  | succ n ih =>
    intro xs ys
    rcases xs with _ | ⟨x, xs⟩
    · simp [endL]
    · rcases ys with _ | ⟨y, ys⟩
      · simp [endL]
      · rw [endL]
        split
        · omega
        · split
          · have := ih xs ys; omega
          · omega
theorem frontN_le (f : Int) (xs : List Tk) : frontN f xs ≤ xs.length := List.length_filter_le _ _
theorem endN_le (to by_ : Int) (f : Nat) (xs ys : List Tk) : endN to by_ f xs ys ≤ xs.length - f ∧ endN to by_ f xs ys ≤ ys.length - f := by
  have := endL_le to by_ (min (xs.length - f) (ys.length - f)) xs.reverse ys.reverse
  unfold endN
  omega

theorem frontN_snoc (f : Int) (xs : List Tk) (i : Nat) (h : i < xs.length) : frontN f (xs.take (i + 1)) = frontN f (xs.take i) + if xs[i].2.2 < f - 1 then 1 else 0 := by
  unfold frontN
  rw [List.take_succ_eq_append_getElem h, List.filter_append, List.length_append]
  congr 1
  by_cases hc : xs[i].2.2 < f - 1 <;> simp [isFront, hc]
theorem endL_step (to by_ : Int) (n : Nat) (xs ys : List Tk) (x y : Tk) : endL to by_ (n + 1) (x :: xs) (y :: ys) = if x.2.1 < to then 0 else if (x.1, x.2.1 + by_, x.2.2 + by_) = y then 1 + endL to by_ n xs ys else 0 := rfl
theorem rev_drop (xs : List Tk) (e : Nat) (h : e < xs.length) : xs.reverse.drop e = (xs[xs.length - 1 - e]'(by omega)) :: xs.reverse.drop (e + 1) := by
  rw [List.drop_eq_getElem_cons (by simpa using h)]
  congr 1
  rw [List.getElem_reverse]

/-- Rising tokens: those of the front are the first ones. -/
theorem front_while (s : Bs) (f : Int) : ∀ (xs : List Tk) (e : Nat), Whole s e xs → xs.filter (isFront f) = xs.takeWhile (isFront f) := by
  intro xs
  induction xs with
  | nil => intro e _; rfl
  | cons x xs ih =>
    intro e h
    obtain ⟨f', t', hf, ht, h1, h2, h3, _, h5⟩ := h
    rw [List.filter_cons, List.takeWhile_cons]
    split
    · rw [ih t' h5]
    · rename_i hx
      rw [List.filter_eq_nil_iff]
      intro y hy hc
      have := whole_mem s xs t' h5 y hy
      simp [isFront] at hx hc
      omega

/-! ### An edit that puts in what it takes away -/
theorem edit_same (s : Bs) (f t : Nat) (h : f ≤ t) (ht : t ≤ s.length) : edit s f t ((s.drop f).take (t - f)) = s := by
  unfold edit
  rw [List.append_assoc]
  have : (s.drop f).take (t - f) ++ s.drop t = s.drop f := by
    have e := List.take_append_drop (t - f) (s.drop f)
    rw [List.drop_drop, show f + (t - f) = t by omega] at e
    exact e
  rw [this, List.take_append_drop]
def isBack (t : Int) (x : Tk) : Bool := decide (t ≤ x.2.1)
def isIn (f t : Int) (x : Tk) : Bool := decide (f - 1 ≤ x.2.2) && decide (x.2.1 < t)
theorem endL_self (t : Int) : ∀ (n : Nat) (xs : List Tk), endL t 0 n xs xs = min n (xs.takeWhile (isBack t)).length := by
  intro n
  induction n with
  | zero => intro xs; simp [endL]
  | succ n ih =>
    intro xs
    rcases xs with _ | ⟨x, xs⟩
    · simp [endL]
    · rw [endL, List.takeWhile_cons]
      by_cases h : x.2.1 < t
      · rw [if_pos h, if_neg (by simp [isBack]; omega)]; simp
      · rw [if_neg h, if_pos (by simp), if_pos (by simp [isBack]; omega), ih]
        simp only [List.length_cons]; omega
theorem takeWhile_last (p : Tk → Bool) (l : List Tk) (x : Tk) (h : p x = false) : (l ++ [x]).takeWhile p = l.takeWhile p := by
  induction l with
  | nil => simp [h]
  | cons y l ih => simp only [List.cons_append, List.takeWhile_cons, ih]
theorem back_while (s : Bs) (t : Int) : ∀ (xs : List Tk) (e : Nat), Whole s e xs → (xs.reverse.takeWhile (isBack t)).length = (xs.filter (isBack t)).length := by
  intro xs
  induction xs with
  | nil => intro e _; rfl
  | cons x xs ih =>
    intro e h
    have hall := whole_mem s (x :: xs) e h
    obtain ⟨f', t', hf, ht, h1, h2, h3, _, h5⟩ := h
    cases hx : isBack t x
    · rw [List.reverse_cons, takeWhile_last _ _ _ hx, ih t' h5, List.filter_cons, hx]; rfl
    · have hmem := whole_mem s xs t' h5
      have hxx : t ≤ x.2.1 := by simpa [isBack] using hx
      have hq : ∀ y ∈ x :: xs, isBack t y = true := by
        intro y hy
        rcases List.mem_cons.1 hy with rfl | hy
        · exact hx
        · have := hmem y hy
          simp [isBack]; omega
      rw [List.filter_eq_self.2 hq]
      have : (x :: xs).reverse.takeWhile (isBack t) = (x :: xs).reverse := by
        have hq' : ∀ y ∈ (x :: xs).reverse, isBack t y = true := fun y hy => hq y (List.mem_reverse.1 hy)
        generalize (x :: xs).reverse = l at hq'
        induction l with
        | nil => rfl
        | cons z l ihl => rw [List.takeWhile_cons, if_pos (hq' z List.mem_cons_self), ihl (fun y hy => hq' y (List.mem_cons_of_mem _ hy))]
      rw [this, List.length_reverse]
theorem part_three (s : Bs) (f t : Int) (hft : f ≤ t) : ∀ (xs : List Tk) (e : Nat), Whole s e xs → (xs.filter (isFront f)).length + (xs.filter (isBack t)).length + (xs.filter (isIn f t)).length = xs.length := by
  intro xs
  induction xs with
  | nil => intro e _; rfl
  | cons x xs ih =>
    intro e h
    obtain ⟨f', t', hf, ht, h1, h2, h3, _, h5⟩ := h
    have := ih t' h5
    rw [List.filter_cons, List.filter_cons, List.filter_cons]
    by_cases c1 : x.2.2 < f - 1
    · rw [if_pos (by simp [isFront]; omega), if_neg (by simp [isBack]; omega), if_neg (by simp [isIn]; omega)]
      simp only [List.length_cons]; omega
    · by_cases c2 : t ≤ x.2.1
      · rw [if_neg (by simp [isFront]; omega), if_pos (by simp [isBack]; omega), if_neg (by simp [isIn]; omega)]
        simp only [List.length_cons]; omega
      · rw [if_neg (by simp [isFront]; omega), if_neg (by simp [isBack]; omega), if_pos (by simp [isIn]; omega)]
        simp only [List.length_cons]; omega
/-- How many tokens an edit touches. -/
def insideN (f t : Int) (xs : List Tk) : Nat := (xs.filter (isIn f t)).length
theorem insideN_snoc (f t : Int) (xs : List Tk) (i : Nat) (h : i < xs.length) : insideN f t (xs.take (i + 1)) = insideN f t (xs.take i) + if f - 1 ≤ xs[i].2.2 ∧ xs[i].2.1 < t then 1 else 0 := by
  unfold insideN
  rw [List.take_succ_eq_append_getElem h, List.filter_append, List.length_append]
  congr 1
  by_cases hc : f - 1 ≤ xs[i].2.2 ∧ xs[i].2.1 < t
  · rw [if_pos hc]; simp [isIn, hc]
  · rw [if_neg hc]
    have : isIn f t xs[i] = false := by simp only [isIn, Bool.and_eq_false_iff, decide_eq_false_iff_not]; omega
    simp [this]
theorem nothing_sum (s : Bs) (f t : Int) (hft : f ≤ t) (xs : List Tk) (e : Nat) (h : Whole s e xs) : frontN f xs + endN t 0 (frontN f xs) xs xs + insideN f t xs = xs.length := by
  have h1 := part_three s f t hft xs e h
  have h2 := back_while s t xs e h
  unfold endN
  rw [endL_self, h2]
  unfold frontN insideN at *
  omega
end Go.Proofs.Ytniofjeefphlmaa
