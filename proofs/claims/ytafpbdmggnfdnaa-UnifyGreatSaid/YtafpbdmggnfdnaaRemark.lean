/- The contracts of the lexer's remark and nothing. -/
import Derived.Test.YtafpbdmggnfdnaaToken2
namespace Go.Proofs.Ytafpbdmggnfdnaa
open Go.RowKit
set_option linter.unusedVariables false

theorem remL_at (s : ByteArray) (j : Nat) (d : Int) (n : Nat) (h : j < s.size) : remL (s.toList.drop j) d n =
    if opensL (s.toList.drop j) then remL (s.toList.drop (j + 2)) (d + 1) (n + 2)
    else if closesL (s.toList.drop j) then (if d - 1 = 0 then (n + 2, true) else remL (s.toList.drop (j + 2)) (d - 1) (n + 2))
    else remL (s.toList.drop (j + 1)) d (n + 1) := by
  obtain ⟨c, hc, e⟩ := drop_byt s j h
  by_cases h' : j + 1 < s.size
  · obtain ⟨d', hd, e2⟩ := drop_byt s (j + 1) h'
    rw [e, e2, remL]
  · have e2 : s.toList.drop (j + 1) = [] := List.drop_of_length_le (by rw [size_toList]; omega)
    rw [e, e2]; simp [opensL, closesL, remL]
theorem remL_end (s : ByteArray) (j : Nat) (d : Int) (n : Nat) (h : s.size ≤ j) : remL (s.toList.drop j) d n = (n, false) := by
  rw [List.drop_of_length_le (by rw [size_toList]; exact h)]; simp [remL]
theorem opens_lt (s : ByteArray) (j : Nat) (h : opensL (s.toList.drop j) = true) : j + 1 < s.size := by
  rw [opensL_byt] at h; simp at h; exact h.1.1
theorem closes_lt (s : ByteArray) (j : Nat) (h : closesL (s.toList.drop j) = true) : j + 1 < s.size := by
  rw [closesL_byt] at h; simp at h; exact h.1.1

def RemOut (s : ByteArray) (k : Nat) (w : World) (e : Ending) (w' : World) : Prop :=
  e = .returned (.tuple #[.int .i64 ((k + (remL (s.toList.drop k) 0 0).1 : Nat) : Int), .bool (remL (s.toList.drop k) 0 0).2]) ∧ w = w'
theorem ret_ib {a c : Int} {b d : Bool} (h : a = c) (h' : b = d) : Ending.returned (.tuple #[.int .i64 a, .bool b]) = .returned (.tuple #[.int .i64 c, .bool d]) := by rw [h, h']

theorem noL_at (s : ByteArray) (k : Nat) (h : k < s.size) : noL (s.toList.drop k) = if whiteB (byt s k) || opensL (s.toList.drop k) || decide (0 < (tokenL (s.toList.drop k)).2) then 0 else 1 + noL (s.toList.drop (k + 1)) := by
  obtain ⟨c, hc, e⟩ := drop_byt s k h
  rw [e, noL, hc]
theorem noL_end (s : ByteArray) (k : Nat) (h : s.size ≤ k) : noL (s.toList.drop k) = 0 := by
  rw [List.drop_of_length_le (by rw [size_toList]; exact h)]; rfl

end Go.Proofs.Ytafpbdmggnfdnaa
