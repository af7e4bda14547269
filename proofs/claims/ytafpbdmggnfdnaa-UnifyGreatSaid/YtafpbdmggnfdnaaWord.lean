/- The contracts of lex.Word, lex.Kind, lex.Is. -/
import Derived.Test.YtafpbdmggnfdnaaToks
import Derived.Test.YtafpbdmggnfdnaaPlainAgain
import Derived.Deep.RegionHeld3
namespace Go.Proofs.Ytafpbdmggnfdnaa
open Go.RowKit
set_option linter.unusedVariables false

def wordB (s : ByteArray) (f t : Int) : ByteArray := if f < 0 ∨ t < f ∨ (s.size : Int) < t then ⟨#[]⟩ else s.extract f.toNat t.toNat
def tokV (k f t : Int) : Value := .agg #[.int .i64 k, .int .i64 f, .int .i64 t]
abbrev tokBox (w : World) (k f t : Int) : World := w.alloc (.cells #[.int .i64 k, .int .i64 f, .int .i64 t] 122)

theorem ret_string {a b : ByteArray} (h : a = b) : Ending.returned (.string a) = .returned (.string b) := by rw [h]

set_option maxHeartbeats 1000000 in
theorem kind_any (u : ByteArray) (w : World) (hu : u.size ≤ 1000000) :
    Calls Try.prog 55 #[.string u] w fun e w' => e = .returned (.int .i64 (kindL u.toList)) ∧ w = w' := by
  have hsz := size_toList u
  by_cases he : u.toList = []
  · have h0 : u.toList.isEmpty = true := by rw [he]; rfl
    go_enter Try.func55, Try.ntmps55
    go_wp2
    go_ret
    exact ⟨ret_int (by unfold kindL; rw [if_pos he]), rfl⟩
  · have h0 : u.toList.isEmpty = false := by simpa using he
    have hpos : 0 < u.size := by rw [← hsz]; exact List.length_pos_iff.2 he
    have HK : Hid (kindL u.toList = if (tokenL u.toList).2 = u.size then (tokenL u.toList).1 else 0) := hide (by unfold kindL; rw [if_neg he, hsz])
    have HT := hide (token_any u 0)
    rw [Int.toNat_zero, List.drop_zero] at HT
    clear he hsz
    generalize tokenL u.toList = T at *
    generalize kindL u.toList = K at *
    obtain ⟨k, z⟩ := T
    by_cases hz : z = u.size
    · subst hz
      rw [if_pos rfl] at HK
      have hne : ((u.size : Int) != (u.size : Int)) = false := by simp
      go_enter Try.func55, Try.ntmps55
      go_wp2_with (go_at_call 65; refine (HT.out _ (by omega) (by omega) hu).mono ?_; rintro e w' ⟨rfl, rfl⟩)
      go_ret
      exact ⟨ret_int HK.out.symm, rfl⟩
    · rw [if_neg hz] at HK
      have hne : ((z : Int) != (u.size : Int)) = true := by simp; omega
      go_enter Try.func55, Try.ntmps55
      go_wp2_with (go_at_call 65; refine (HT.out _ (by omega) (by omega) hu).mono ?_; rintro e w' ⟨rfl, rfl⟩)
      go_ret
      exact ⟨ret_int HK.out.symm, rfl⟩

/-- Is it this word of the language? -/
def isB (s : ByteArray) (k f t : Int) (u : ByteArray) : Bool := (k == 5 || k == 6) && (wordB s f t).toList == u.toList
end Go.Proofs.Ytafpbdmggnfdnaa
