/- The contracts of the lexer's leaves: small, great, digit, white, opens, closes (the program's and the reference's). -/
import Derived.Test.YtniofjeefphlmaaRows
import Derived.Test.YtniofjeefphlmaaPlain
import Derived.WalkKit
import Derived.WalkSpells
import Derived.WalkLawsBesides
namespace Go.Proofs.Ytniofjeefphlmaa
open Go.RowKit
set_option linter.unusedVariables false

/-- The byte at a place of a text. -/
def byt (s : ByteArray) (i : Nat) : Int := ((s.toList.getD i 0).toNat : Int)
theorem byt_eq (s : ByteArray) (k : Nat) (h : k < s.size) : ((s[k]'h).toNat : Int) = byt s k := by
  unfold byt
  rw [ByteArray.toList_eq, List.getD_eq_getElem?_getD, List.getElem?_eq_getElem (by simpa using h)]
  rfl
theorem size_toList (s : ByteArray) : s.toList.length = s.size := by rw [ByteArray.toList_eq]; rfl
theorem drop_byt (s : ByteArray) (k : Nat) (h : k < s.size) : ∃ c : UInt8, (c.toNat : Int) = byt s k ∧ s.toList.drop k = c :: s.toList.drop (k + 1) := by
  have hl : k < s.toList.length := by rw [size_toList]; exact h
  refine ⟨s.toList[k], ?_, List.drop_eq_getElem_cons hl⟩
  unfold byt
  rw [List.getD_eq_getElem?_getD, List.getElem?_eq_getElem hl]
  rfl
theorem byt_ge (s : ByteArray) (k : Nat) : 0 ≤ byt s k ∧ byt s k ≤ 255 := by
  unfold byt
  have := (s.toList.getD k 0).toNat_lt
  omega

theorem ret_bool {a b : Bool} (h : a = b) : Ending.returned (.bool a) = .returned (.bool b) := by rw [h]
theorem ret_int {k : IntKind} {a b : Int} (h : a = b) : Ending.returned (.int k a) = .returned (.int k b) := by rw [h]
theorem hide {p : Prop} (h : p) : Hid p := h

theorem opensL_byt (s : ByteArray) (k : Nat) : opensL (s.toList.drop k) = (decide (k + 1 < s.size) && byt s k == 40 && byt s (k + 1) == 42) := by
  by_cases h : k + 1 < s.size
  · obtain ⟨c, hc, e1⟩ := drop_byt s k (by omega)
    obtain ⟨d, hd, e2⟩ := drop_byt s (k + 1) h
    rw [e1, e2, ← hc, ← hd]; simp [opensL, h]
  · by_cases h' : k < s.size
    · obtain ⟨c, hc, e1⟩ := drop_byt s k h'
      rw [e1, List.drop_of_length_le (by rw [size_toList]; omega)]; simp [opensL, h]
    · rw [List.drop_of_length_le (by rw [size_toList]; omega)]; simp [opensL, h]
theorem closesL_byt (s : ByteArray) (k : Nat) : closesL (s.toList.drop k) = (decide (k + 1 < s.size) && byt s k == 42 && byt s (k + 1) == 41) := by
  by_cases h : k + 1 < s.size
  · obtain ⟨c, hc, e1⟩ := drop_byt s k (by omega)
    obtain ⟨d, hd, e2⟩ := drop_byt s (k + 1) h
    rw [e1, e2, ← hc, ← hd]; simp [closesL, h]
  · by_cases h' : k < s.size
    · obtain ⟨c, hc, e1⟩ := drop_byt s k h'
      rw [e1, List.drop_of_length_le (by rw [size_toList]; omega)]; simp [closesL, h]
    · rw [List.drop_of_length_le (by rw [size_toList]; omega)]; simp [closesL, h]

set_option maxHeartbeats 400000 in
theorem small_any (c : Int) (w : World) : Calls Try.prog 41 #[.int .u8 c] w fun e w' => e = .returned (.bool (smallB c)) ∧ w = w' := by
  go_enter Try.func41, Try.ntmps41
  go_wp2
  all_goals
    go_ret
    exact ⟨ret_bool (by first | (subst_vars; rfl) | (rw [Bool.eq_iff_iff]; simp [smallB]; done) | (rw [Bool.eq_iff_iff]; simp [smallB]; omega)), rfl⟩

set_option maxHeartbeats 400000 in
theorem great_any (c : Int) (w : World) : Calls Try.prog 44 #[.int .u8 c] w fun e w' => e = .returned (.bool (greatB c)) ∧ w = w' := by
  go_enter Try.func44, Try.ntmps44
  go_wp2
  all_goals
    go_ret
    exact ⟨ret_bool (by first | (subst_vars; rfl) | (rw [Bool.eq_iff_iff]; simp [greatB]; done) | (rw [Bool.eq_iff_iff]; simp [greatB]; omega)), rfl⟩

set_option maxHeartbeats 400000 in
theorem digit_any (c : Int) (w : World) : Calls Try.prog 45 #[.int .u8 c] w fun e w' => e = .returned (.bool (digitB c)) ∧ w = w' := by
  go_enter Try.func45, Try.ntmps45
  go_wp2
  all_goals
    go_ret
    exact ⟨ret_bool (by first | (subst_vars; rfl) | (rw [Bool.eq_iff_iff]; simp [digitB]; done) | (rw [Bool.eq_iff_iff]; simp [digitB]; omega)), rfl⟩

set_option maxHeartbeats 400000 in
theorem white_any (c : Int) (w : World) : Calls Try.prog 31 #[.int .u8 c] w fun e w' => e = .returned (.bool (whiteB c)) ∧ w = w' := by
  go_enter Try.func31, Try.ntmps31
  go_wp2
  all_goals
    go_ret
    exact ⟨ret_bool (by first | (subst_vars; rfl) | (rw [Bool.eq_iff_iff]; simp [whiteB]; done) | (rw [Bool.eq_iff_iff]; simp [whiteB]; omega)), rfl⟩

set_option maxHeartbeats 400000 in
theorem rsmall_any (c : Int) (w : World) : Calls Try.prog 47 #[.int .u8 c] w fun e w' => e = .returned (.bool (smallB c)) ∧ w = w' := by
  go_enter Try.func47, Try.ntmps47
  go_wp2
  all_goals
    go_ret
    exact ⟨ret_bool (by first | (subst_vars; rfl) | (rw [Bool.eq_iff_iff]; simp [smallB]; done) | (rw [Bool.eq_iff_iff]; simp [smallB]; omega)), rfl⟩

set_option maxHeartbeats 400000 in
theorem rgreat_any (c : Int) (w : World) : Calls Try.prog 48 #[.int .u8 c] w fun e w' => e = .returned (.bool (greatB c)) ∧ w = w' := by
  go_enter Try.func48, Try.ntmps48
  go_wp2
  all_goals
    go_ret
    exact ⟨ret_bool (by first | (subst_vars; rfl) | (rw [Bool.eq_iff_iff]; simp [greatB]; done) | (rw [Bool.eq_iff_iff]; simp [greatB]; omega)), rfl⟩

set_option maxHeartbeats 400000 in
theorem rdigit_any (c : Int) (w : World) : Calls Try.prog 49 #[.int .u8 c] w fun e w' => e = .returned (.bool (digitB c)) ∧ w = w' := by
  go_enter Try.func49, Try.ntmps49
  go_wp2
  all_goals
    go_ret
    exact ⟨ret_bool (by first | (subst_vars; rfl) | (rw [Bool.eq_iff_iff]; simp [digitB]; done) | (rw [Bool.eq_iff_iff]; simp [digitB]; omega)), rfl⟩

set_option maxHeartbeats 400000 in
theorem rwhite_any (c : Int) (w : World) : Calls Try.prog 36 #[.int .u8 c] w fun e w' => e = .returned (.bool (whiteB c)) ∧ w = w' := by
  go_enter Try.func36, Try.ntmps36
  go_wp2
  all_goals
    go_ret
    exact ⟨ret_bool (by first | (subst_vars; rfl) | (rw [Bool.eq_iff_iff]; simp [whiteB]; done) | (rw [Bool.eq_iff_iff]; simp [whiteB]; omega)), rfl⟩

set_option maxHeartbeats 400000 in
theorem opens_any (s : ByteArray) (a : Int) (w : World) (h0 : 0 ≤ a) (h1 : a ≤ 2000000) (hs : s.size ≤ 1000000) :
    Calls Try.prog 32 #[.string s, .int .i64 a] w fun e w' => e = .returned (.bool (opensL (s.toList.drop a.toNat))) ∧ w = w' := by
  obtain ⟨k, rfl⟩ := Int.eq_ofNat_of_zero_le h0
  rw [Int.toNat_natCast, opensL_byt]
  by_cases hk : k + 1 < s.size
  · have e1 := byt_eq s k (by omega)
    have e2 := byt_eq s (k + 1) hk
    go_enter Try.func32, Try.ntmps32
    go_wp2
    all_goals
      go_ret
      exact ⟨ret_bool (by simp [*]), rfl⟩
  · go_enter Try.func32, Try.ntmps32
    go_wp2
    go_ret
    exact ⟨ret_bool (by simp), rfl⟩

set_option maxHeartbeats 400000 in
theorem closes_any (s : ByteArray) (a : Int) (w : World) (h0 : 0 ≤ a) (h1 : a ≤ 2000000) (hs : s.size ≤ 1000000) :
    Calls Try.prog 40 #[.string s, .int .i64 a] w fun e w' => e = .returned (.bool (closesL (s.toList.drop a.toNat))) ∧ w = w' := by
  obtain ⟨k, rfl⟩ := Int.eq_ofNat_of_zero_le h0
  rw [Int.toNat_natCast, closesL_byt]
  by_cases hk : k + 1 < s.size
  · have e1 := byt_eq s k (by omega)
    have e2 := byt_eq s (k + 1) hk
    go_enter Try.func40, Try.ntmps40
    go_wp2
    all_goals
      go_ret
      exact ⟨ret_bool (by simp [*]), rfl⟩
  · go_enter Try.func40, Try.ntmps40
    go_wp2
    go_ret
    exact ⟨ret_bool (by simp), rfl⟩
end Go.Proofs.Ytniofjeefphlmaa
