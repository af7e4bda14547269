/- The contracts of the reference's Word, Is and Kind, and those of lex.Is with the memory that they leave written out. -/
import Derived.Test.YtniofjeefphlmaaWord
import Derived.Test.YtniofjeefphlmaaRefLex
namespace Go.Proofs.Ytniofjeefphlmaa
open Go.RowKit
set_option linter.unusedVariables false

set_option maxHeartbeats 1000000 in
theorem rword_any (s : ByteArray) (k f t : Int) (w : World) (hs : s.size ≤ 1000000) :
    Calls Try.prog 20 #[.string s, .agg #[.int .i64 k, .int .i64 f, .int .i64 t]] w fun e w' => e = .returned (.string (wordB s f t)) ∧ w' = tokBox w k f t := by
  rcases (show f < 0 ∨ (0 ≤ f ∧ t < f) ∨ (0 ≤ f ∧ f ≤ t ∧ (s.size : Int) < t) ∨ (0 ≤ f ∧ f ≤ t ∧ t ≤ s.size) by omega) with h | ⟨h1, h2⟩ | ⟨h1, h2, h3⟩ | ⟨h1, h2, h3⟩
  · go_enter Try.func20, Try.ntmps20
    go_wp2
    go_ret
    exact ⟨ret_string (by unfold wordB; rw [if_pos (by omega)]), rfl⟩
  · go_enter Try.func20, Try.ntmps20
    go_wp2
    go_ret
    exact ⟨ret_string (by unfold wordB; rw [if_pos (by omega)]), rfl⟩
  · go_enter Try.func20, Try.ntmps20
    go_wp2
    go_ret
    exact ⟨ret_string (by unfold wordB; rw [if_pos (by omega)]), rfl⟩
  · go_enter Try.func20, Try.ntmps20
    go_wp2
    go_ret
    exact ⟨ret_string (by unfold wordB; rw [if_neg (by omega)]), rfl⟩

set_option maxHeartbeats 1000000 in
theorem is_yes (s : ByteArray) (k f t : Int) (u : ByteArray) (w : World) (hs : s.size ≤ 1000000) (hk : k = 5 ∨ k = 6) :
    Calls Try.prog 21 #[.string s, .agg #[.int .i64 k, .int .i64 f, .int .i64 t], .string u] w fun e w' => e = .returned (.bool ((wordB s f t).toList == u.toList)) ∧ w' = tokBox (tokBox w k f t) k f t := by
  rcases hk with rfl | rfl
  all_goals
    go_enter Try.func21, Try.ntmps21
    go_wp2_with (go_at_call 18; refine (word_any _ _ _ _ _ hs).mono ?_; rintro e w' ⟨rfl, rfl⟩)
    go_ret
    exact ⟨rfl, rfl⟩
set_option maxHeartbeats 1000000 in
theorem is_no (s : ByteArray) (k f t : Int) (u : ByteArray) (w : World) (hs : s.size ≤ 1000000) (h5 : (k == 5) = false) (h6 : (k == 6) = false) :
    Calls Try.prog 21 #[.string s, .agg #[.int .i64 k, .int .i64 f, .int .i64 t], .string u] w fun e w' => e = .returned (.bool false) ∧ w' = tokBox w k f t := by
  go_enter Try.func21, Try.ntmps21
  go_wp2_with (go_at_call 18; refine (word_any _ _ _ _ _ hs).mono ?_; rintro e w' ⟨rfl, rfl⟩)
  go_ret
  exact ⟨rfl, rfl⟩

set_option maxHeartbeats 1000000 in
theorem ris_yes (s : ByteArray) (k f t : Int) (u : ByteArray) (w : World) (hs : s.size ≤ 1000000) (hk : k = 5 ∨ k = 6) :
    Calls Try.prog 22 #[.string s, .agg #[.int .i64 k, .int .i64 f, .int .i64 t], .string u] w fun e w' => e = .returned (.bool ((wordB s f t).toList == u.toList)) ∧ w' = tokBox (tokBox w k f t) k f t := by
  rcases hk with rfl | rfl
  all_goals
    go_enter Try.func22, Try.ntmps22
    go_wp2_with (go_at_call 20; refine (rword_any _ _ _ _ _ hs).mono ?_; rintro e w' ⟨rfl, rfl⟩)
    go_ret
    exact ⟨rfl, rfl⟩
set_option maxHeartbeats 1000000 in
theorem ris_no (s : ByteArray) (k f t : Int) (u : ByteArray) (w : World) (hs : s.size ≤ 1000000) (h5 : (k == 5) = false) (h6 : (k == 6) = false) :
    Calls Try.prog 22 #[.string s, .agg #[.int .i64 k, .int .i64 f, .int .i64 t], .string u] w fun e w' => e = .returned (.bool false) ∧ w' = tokBox w k f t := by
  go_enter Try.func22, Try.ntmps22
  go_wp2_with (go_at_call 20; refine (rword_any _ _ _ _ _ hs).mono ?_; rintro e w' ⟨rfl, rfl⟩)
  go_ret
  exact ⟨rfl, rfl⟩

theorem kindR_one (u : Bs) (t : Tk) (h : lx u 0 = [t]) : kindR u = if t.2.1 = 0 ∧ t.2.2 = u.length ∧ t.1 ≠ 7 then t.1 else 0 := by unfold kindR; rw [h]
theorem kindR_other (u : Bs) (h : (lx u 0).length ≠ 1) : kindR u = 0 := by
  unfold kindR
  split
  · rename_i t ht; rw [ht] at h; simp at h
  · rfl
set_option maxHeartbeats 2000000 in
theorem rkind_any (u : ByteArray) (w : World) (hu : u.size ≤ 1000000) :
    Calls Try.prog 23 #[.string u] w fun e w' => e = .returned (.int .i64 (kindL u.toList)) ∧ Below w.heap.size w w' := by
  rw [← kind_same]
  have hn := lx_length u.toList 0
  rw [size_toList] at hn
  by_cases h1 : (lx u.toList 0).length = 1
  · obtain ⟨t, ht⟩ := List.length_eq_one_iff.1 h1
    have HK := hide (kindR_one u.toList t ht)
    have HL := hide (rlex_any u w hu)
    rw [ht] at HL
    rw [size_toList] at HK
    generalize kindR u.toList = K at *
    obtain ⟨x1, x2, x3⟩ := t
    simp only at HK
    clear h1 ht hn
    rcases (show (x2 != 0) = true ∨ (x2 = 0 ∧ (x3 != (u.size : Int)) = true) ∨ (x2 = 0 ∧ x3 = u.size ∧ x1 = 7) ∨ (x2 = 0 ∧ x3 = u.size ∧ (x1 == 7) = false) by
      simp only [bne_iff_ne, beq_eq_false_iff_ne]; omega) with g | ⟨rfl, g⟩ | ⟨rfl, rfl, rfl⟩ | ⟨rfl, rfl, g⟩
    all_goals
      go_enter Try.func23, Try.ntmps23
      go_wp2_with fail
      refine HL.out.mono ?_
      rintro e w2 ⟨v2, rfl, hown2, hb2⟩
      obtain ⟨A, c, rfl, ha⟩ := Toks.of_own hown2
      obtain ⟨b, o, rfl, _, a1, a2, a3⟩ := ha.at_ 0 (by simp)
      simp only [List.getElem_cons_zero, Nat.zero_mul, Nat.add_zero] at a1 a2 a3
      have hb3 := hide hb2; clear hb2 hown2 ha
      go_wp2
      go_ret
      refine ⟨ret_int ?_, hb3.out⟩
      rw [HK.out]
      clear HK HL hb3
      split <;> first | rfl | (simp_all; done)
  · have HK := hide (kindR_other u.toList h1)
    generalize kindR u.toList = K at *
    have hne : (((lx u.toList 0).length : Int) != 1) = true := by simp only [bne_iff_ne]; omega
    generalize hxs : lx u.toList 0 = xs at *
    have HL := hide (rlex_any u w hu)
    rw [hxs] at HL
    clear hxs h1
    go_enter Try.func23, Try.ntmps23
    go_wp2_with fail
    refine HL.out.mono ?_
    rintro e w2 ⟨v2, rfl, hown2, hb2⟩
    obtain ⟨A, c, rfl, ha⟩ := Toks.of_own hown2
    have hb3 := hide hb2; clear hb2 hown2 ha
    go_wp2
    go_ret
    exact ⟨ret_int HK.out.symm, hb3.out⟩
end Go.Proofs.Ytniofjeefphlmaa
