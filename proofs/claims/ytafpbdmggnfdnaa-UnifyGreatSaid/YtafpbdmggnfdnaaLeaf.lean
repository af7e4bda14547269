/- The contracts of the lexer's leaves: small, great, digit, white, opens, closes (the program's and the reference's). -/
import Derived.Test.YtafpbdmggnfdnaaRows
import Derived.Test.YtafpbdmggnfdnaaPlain
import Derived.WalkKit
import Derived.WalkSpells
import Derived.WalkLawsBesides
namespace Go.Proofs.Ytafpbdmggnfdnaa
open Go.RowKit
set_option linter.unusedVariables false

/-- The byte at a place of a text. -/
def byt (s : ByteArray) (i : Nat) : Int := ((s.toList.getD i 0).toNat : Int)
theorem byt_eq (s : ByteArray) (k : Nat) (h : k < s.size) : ((s[k]'h).toNat : Int) = byt s k := by
  unfold byt
  rw [ByteArray.toList_eq, List.getD_eq_getElem?_getD, List.getElem?_eq_getElem (by simpa using h)]
  rfl
theorem size_toList (s : ByteArray) : s.toList.length = s.size := by rw [ByteArray.toList_eq]; rfl
theorem drop_byt (s : ByteArray) (k : Nat) (h : k < s.size) : ∃ c : UInt8, (c.toNat : Int) = byt s k ∧ s.toList.drop k = c :: s.toList.drop (k + 1) := by
  have hl : k < s.toList.length := by rw [size_toList]; exact h
  refine ⟨s.toList[k], ?_, List.drop_eq_getElem_cons hl⟩
  unfold byt
  rw [List.getD_eq_getElem?_getD, List.getElem?_eq_getElem hl]
  rfl
theorem byt_ge (s : ByteArray) (k : Nat) : 0 ≤ byt s k ∧ byt s k ≤ 255 := by
  unfold byt
  have := (s.toList.getD k 0).toNat_lt
  omega

theorem ret_bool {a b : Bool} (h : a = b) : Ending.returned (.bool a) = .returned (.bool b) := by rw [h]
theorem ret_int {k : IntKind} {a b : Int} (h : a = b) : Ending.returned (.int k a) = .returned (.int k b) := by rw [h]
theorem hide {p : Prop} (h : p) : Hid p := h

theorem opensL_byt (s : ByteArray) (k : Nat) : opensL (s.toList.drop k) = (decide (k + 1 < s.size) && byt s k == 40 && byt s (k + 1) == 42) := by
  by_cases h : k + 1 < s.size
  · obtain ⟨c, hc, e1⟩ := drop_byt s k (by omega)
    obtain ⟨d, hd, e2⟩ := drop_byt s (k + 1) h
    rw [e1, e2, ← hc, ← hd]; simp [opensL, h]
  · by_cases h' : k < s.size
    · obtain ⟨c, hc, e1⟩ := drop_byt s k h'
      rw [e1, List.drop_of_length_le (by rw [size_toList]; omega)]; simp [opensL, h]
    · rw [List.drop_of_length_le (by rw [size_toList]; omega)]; simp [opensL, h]
theorem closesL_byt (s : ByteArray) (k : Nat) : closesL (s.toList.drop k) = (decide (k + 1 < s.size) && byt s k == 42 && byt s (k + 1) == 41) := by
  by_cases h : k + 1 < s.size
  · obtain ⟨c, hc, e1⟩ := drop_byt s k (by omega)
    obtain ⟨d, hd, e2⟩ := drop_byt s (k + 1) h
    rw [e1, e2, ← hc, ← hd]; simp [closesL, h]
  · by_cases h' : k < s.size
    · obtain ⟨c, hc, e1⟩ := drop_byt s k h'
      rw [e1, List.drop_of_length_le (by rw [size_toList]; omega)]; simp [closesL, h]
    · rw [List.drop_of_length_le (by rw [size_toList]; omega)]; simp [closesL, h]

set_option maxHeartbeats 400000 in
theorem small_any (c : Int) (w : World) : Calls Try.prog 69 #[.int .u8 c] w fun e w' => e = .returned (.bool (smallB c)) ∧ w = w' := by
  go_enter Try.func69, Try.ntmps69
  go_wp2
  all_goals
    go_ret
    exact ⟨ret_bool (by first | (subst_vars; rfl) | (rw [Bool.eq_iff_iff]; simp [smallB]; done) | (rw [Bool.eq_iff_iff]; simp [smallB]; omega)), rfl⟩

set_option maxHeartbeats 400000 in
theorem great_any (c : Int) (w : World) : Calls Try.prog 72 #[.int .u8 c] w fun e w' => e = .returned (.bool (greatB c)) ∧ w = w' := by
  go_enter Try.func72, Try.ntmps72
  go_wp2
  all_goals
    go_ret
    exact ⟨ret_bool (by first | (subst_vars; rfl) | (rw [Bool.eq_iff_iff]; simp [greatB]; done) | (rw [Bool.eq_iff_iff]; simp [greatB]; omega)), rfl⟩

set_option maxHeartbeats 400000 in
theorem digit_any (c : Int) (w : World) : Calls Try.prog 73 #[.int .u8 c] w fun e w' => e = .returned (.bool (digitB c)) ∧ w = w' := by
  go_enter Try.func73, Try.ntmps73
  go_wp2
  all_goals
    go_ret
    exact ⟨ret_bool (by first | (subst_vars; rfl) | (rw [Bool.eq_iff_iff]; simp [digitB]; done) | (rw [Bool.eq_iff_iff]; simp [digitB]; omega)), rfl⟩

set_option maxHeartbeats 400000 in
theorem rsmall_any (c : Int) (w : World) : Calls Try.prog 79 #[.int .u8 c] w fun e w' => e = .returned (.bool (smallB c)) ∧ w = w' := by
  go_enter Try.func79, Try.ntmps79
  go_wp2
  all_goals
    go_ret
    exact ⟨ret_bool (by first | (subst_vars; rfl) | (rw [Bool.eq_iff_iff]; simp [smallB]; done) | (rw [Bool.eq_iff_iff]; simp [smallB]; omega)), rfl⟩

set_option maxHeartbeats 400000 in
theorem rgreat_any (c : Int) (w : World) : Calls Try.prog 80 #[.int .u8 c] w fun e w' => e = .returned (.bool (greatB c)) ∧ w = w' := by
  go_enter Try.func80, Try.ntmps80
  go_wp2
  all_goals
    go_ret
    exact ⟨ret_bool (by first | (subst_vars; rfl) | (rw [Bool.eq_iff_iff]; simp [greatB]; done) | (rw [Bool.eq_iff_iff]; simp [greatB]; omega)), rfl⟩

set_option maxHeartbeats 400000 in
theorem rdigit_any (c : Int) (w : World) : Calls Try.prog 81 #[.int .u8 c] w fun e w' => e = .returned (.bool (digitB c)) ∧ w = w' := by
  go_enter Try.func81, Try.ntmps81
  go_wp2
  all_goals
    go_ret
    exact ⟨ret_bool (by first | (subst_vars; rfl) | (rw [Bool.eq_iff_iff]; simp [digitB]; done) | (rw [Bool.eq_iff_iff]; simp [digitB]; omega)), rfl⟩

set_option maxHeartbeats 400000 in
theorem rwhite_any (c : Int) (w : World) : Calls Try.prog 75 #[.int .u8 c] w fun e w' => e = .returned (.bool (whiteB c)) ∧ w = w' := by
  go_enter Try.func75, Try.ntmps75
  go_wp2
  all_goals
    go_ret
    exact ⟨ret_bool (by first | (subst_vars; rfl) | (rw [Bool.eq_iff_iff]; simp [whiteB]; done) | (rw [Bool.eq_iff_iff]; simp [whiteB]; omega)), rfl⟩

end Go.Proofs.Ytafpbdmggnfdnaa
