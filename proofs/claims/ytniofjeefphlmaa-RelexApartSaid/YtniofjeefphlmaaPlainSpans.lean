/- Plain: the rows of tokens between the signs that part them. No program in sight. -/
import Derived.Test.YtniofjeefphlmaaPlainRelex
namespace Go.Proofs.Ytniofjeefphlmaa
set_option linter.unusedVariables false

abbrev Sp := Int × Int
structure SpSt where
  rows : List Sp
  row : Sp
  opn : Bool
def spStep (sep : Tk → Bool) (st : SpSt) (t : Tk) : SpSt :=
  if sep t then ⟨if st.opn then st.rows ++ [st.row] else st.rows, st.row, false⟩
  else ⟨st.rows, (if st.opn then st.row.1 else t.2.1, t.2.2), true⟩
def spFold (sep : Tk → Bool) (xs : List Tk) : SpSt := xs.foldl (spStep sep) ⟨[], (0, 0), false⟩
def spOut (st : SpSt) : List Sp := if st.opn then st.rows ++ [st.row] else st.rows
def spans (sep : Tk → Bool) (xs : List Tk) : List Sp := spOut (spFold sep xs)
theorem spFold_snoc (sep : Tk → Bool) (xs : List Tk) (i : Nat) (h : i < xs.length) : spFold sep (xs.take (i + 1)) = spStep sep (spFold sep (xs.take i)) xs[i] := by
  unfold spFold
  rw [List.take_succ_eq_append_getElem h, List.foldl_append]
  rfl
theorem spOut_len (sep : Tk → Bool) (xs : List Tk) : (spFold sep xs).rows.length + (spFold sep xs).opn.toNat ≤ xs.length := by
  have : ∀ (xs : List Tk) (st : SpSt), (xs.foldl (spStep sep) st).rows.length + (xs.foldl (spStep sep) st).opn.toNat ≤ st.rows.length + st.opn.toNat + xs.length := by
    intro xs
    induction xs with
    | nil => intro st; simp
    | cons x xs ih =>
      intro st
      rw [List.foldl_cons]
      refine Nat.le_trans (ih _) ?_
      unfold spStep
      split
      · cases st.opn <;> simp <;> omega
      · cases st.opn <;> simp <;> omega
  have := this xs ⟨[], (0, 0), false⟩
  simpa [spFold] using this
end Go.Proofs.Ytniofjeefphlmaa
