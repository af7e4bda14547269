/- The walk of the law LexTexts. -/
import Derived.Test.YtniofjeefphlmaaRefLex
namespace Go.Proofs.Ytniofjeefphlmaa
open Go.RowKit
set_option linter.unusedVariables false

set_option maxHeartbeats 1000000 in
theorem lexTexts_walk (s : ByteArray) (w : World) (hs : s.size ≤ maxLen) :
    Calls Try.prog 3 #[.string s] w fun e w' => e = .returned (.bool true) ∧ Below w.heap.size w w' := by
  unfold maxLen at hs
  by_cases hb : 20000 < s.size
  · go_enter Try.func3, Try.ntmps3
    go_wp2_with (go_at_call 14; refine (alive_any _).mono ?_; rintro e w1 ⟨rfl, hb1⟩)
    go_ret
    exact ⟨rfl, hb1⟩
  · have hn := lx_length s.toList 0
    rw [size_toList] at hn
    go_enter Try.func3, Try.ntmps3
    go_wp2_with (first
      | (go_at_call 14; refine (alive_any _).mono ?_; rintro e w1 ⟨rfl, hb1⟩)
      | (go_at_call 16; refine (lex_any s _ (by omega)).mono ?_; rintro e w2 ⟨v2, rfl, hown2, hb2⟩)
      | (go_at_call 17; refine (rlex_any s _ (by omega)).mono ?_; rintro e w3 ⟨v3, rfl, hown3, hb3⟩)
      | (go_at_call 15; refine (same_own (own_below hown2 hb3) hown3 (by omega) (by omega)).mono ?_; rintro e w4 ⟨rfl, q, rfl⟩))
    go_ret
    exact ⟨ret_bool (by simp), below_drewN (hb1.trans ((hb2.mono hb1.size).trans (hb3.mono (by have := hb1.size; have := hb2.size; omega)))) _⟩
end Go.Proofs.Ytniofjeefphlmaa
