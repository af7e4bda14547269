/- The contract of lex.Lex: the tokens of a text, in new memory. -/
import Derived.Test.YtafpbdmggnfdnaaRemark
namespace Go.Proofs.Ytafpbdmggnfdnaa
open Go.RowKit
set_option linter.unusedVariables false

def cell3 (t : Tk) : List Value := [.int .i64 t.1, .int .i64 t.2.1, .int .i64 t.2.2]
def cellsOf (l : List Tk) : List Value := l.flatMap cell3
theorem cellsOf_snoc (l : List Tk) (t : Tk) : cellsOf (l ++ [t]) = cellsOf l ++ cell3 t := by simp [cellsOf]
theorem cellsOf_length (l : List Tk) : (cellsOf l).length = l.length * 3 := by
  induction l with
  | nil => rfl
  | cons t l ih => simp only [cellsOf, List.flatMap_cons, List.length_append, List.length_cons] at *; rw [ih]; simp [cell3]; omega
theorem cell_three_new (w : World) (a b c : Value) (t : TypeId) : ∀ j u, [a, b, c][j]? = some u → (w.alloc (.cells #[a, b, c] t)).cell? ((⟨w.heap.size, 0, none⟩ : Addr).add j) = some u := by
  intro j u hj
  match j, hj with
  | 0, hj => simp at hj; subst hj; simp [Addr.add]
  | 1, hj => simp at hj; subst hj; simp [Addr.add]
  | 2, hj => simp at hj; subst hj; simp [Addr.add]
  | j + 3, hj => simp at hj
theorem tokInfo : (Try.prog.info? 122).map (fun i => (i.zero, i.size, i.bytes)) = some (some (.agg #[.int .i64 0, .int .i64 0, .int .i64 0]), 3, 24) := by kernel_rfl

theorem lx_at_white (s : ByteArray) (k : Nat) (h : k < s.size) (hw : whiteB (byt s k) = true) : lx (s.toList.drop k) k = lx (s.toList.drop (k + 1)) (k + 1) := by
  obtain ⟨c, hc, e⟩ := drop_byt s k h
  rw [e, lx_white _ _ _ (by rw [hc]; exact hw)]
theorem lx_at_remark (s : ByteArray) (k : Nat) (h : k < s.size) (hw : whiteB (byt s k) = false) (ho : opensL (s.toList.drop k) = true) (he : (remL (s.toList.drop k) 0 0).2 = true) :
    lx (s.toList.drop k) k = lx (s.toList.drop (k + (remL (s.toList.drop k) 0 0).1)) (k + (remL (s.toList.drop k) 0 0).1) := by
  obtain ⟨c, hc, e⟩ := drop_byt s k h
  rw [← List.drop_drop]
  rw [e] at ho he ⊢
  exact lx_remark _ _ _ (by rw [hc]; exact hw) ho he
theorem lx_at_open (s : ByteArray) (k : Nat) (h : k < s.size) (hw : whiteB (byt s k) = false) (ho : opensL (s.toList.drop k) = true) (he : (remL (s.toList.drop k) 0 0).2 = false) :
    lx (s.toList.drop k) k = [(7, (k : Int), ((k + (remL (s.toList.drop k) 0 0).1 : Nat) : Int))] := by
  obtain ⟨c, hc, e⟩ := drop_byt s k h
  rw [e] at ho he ⊢
  rw [lx_open _ _ _ (by rw [hc]; exact hw) ho he]; simp
theorem lx_at_piece (s : ByteArray) (k : Nat) (h : k < s.size) (hw : whiteB (byt s k) = false) (ho : opensL (s.toList.drop k) = false) :
    lx (s.toList.drop k) k = ((pieceL (s.toList.drop k)).1, (k : Int), (k : Int) + (pieceL (s.toList.drop k)).2) :: lx (s.toList.drop (k + (pieceL (s.toList.drop k)).2)) (k + (pieceL (s.toList.drop k)).2) := by
  obtain ⟨c, hc, e⟩ := drop_byt s k h
  rw [← List.drop_drop]
  rw [e] at ho ⊢
  exact lx_piece _ _ _ (by rw [hc]; exact hw) ho
theorem pieceL_at (s : ByteArray) (k : Nat) (h : k < s.size) : pieceL (s.toList.drop k) = if (tokenL (s.toList.drop k)).2 = 0 then (7, 1 + noL (s.toList.drop (k + 1))) else tokenL (s.toList.drop k) := by
  unfold pieceL; rw [List.tail_drop]
theorem pieceL_at_le (s : ByteArray) (k : Nat) (h : k < s.size) : k + (pieceL (s.toList.drop k)).2 ≤ s.size := by
  obtain ⟨c, hc, e⟩ := drop_byt s k h
  have := pieceL_le c (s.toList.drop (k + 1))
  rw [← e, List.length_drop, size_toList] at this
  omega

/-- What a round has made so far. -/
structure LexRel (s : ByteArray) (w : World) (v : Value) (k : Nat) (done : List Tk) (wr : World) : Prop where
  le : k ≤ s.size
  eq : lx s.toList 0 = done ++ lx (s.toList.drop k) k
  len : done.length ≤ k
  own : wr.ownsRow w.heap.size 122 3 v done.length (cellsOf done)
  below : Below w.heap.size w wr

theorem LexRel.push {s : ByteArray} {w wr w1 : World} {v v1 : Value} {k k1 : Nat} {done : List Tk} {o : Obj} (h : LexRel s w v k done wr) (t : Tk)
    (hown : w1.ownsRow w.heap.size 122 3 v1 (done.length + 1) (cellsOf done ++ cell3 t)) (hg : (wr.alloc o).grownBy w1 v.ownBlock) (hk : k < k1) (hk1 : k1 ≤ s.size)
    (e : lx (s.toList.drop k) k = t :: lx (s.toList.drop k1) k1) : LexRel s w v1 k1 (done ++ [t]) w1 :=
  ⟨hk1, by rw [h.eq, e]; simp, by simp; have := h.len; omega, by rw [cellsOf_snoc, List.length_append]; exact hown,
   (h.below.alloc h.below.size o).grown hg (by simp; exact Nat.le_succ_of_le h.below.size) (fun g hg' => (h.own.lt g hg').1)⟩

end Go.Proofs.Ytafpbdmggnfdnaa
