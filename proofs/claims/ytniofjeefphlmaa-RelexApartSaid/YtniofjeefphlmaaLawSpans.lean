/- The walk of the law RelexSpans. -/
import Derived.Test.YtniofjeefphlmaaSameSpans
import Derived.Test.YtniofjeefphlmaaCopy
import Derived.Test.YtniofjeefphlmaaLawNothing
namespace Go.Proofs.Ytniofjeefphlmaa
open Go.RowKit
set_option linter.unusedVariables false

theorem spans_len (sep : Tk → Bool) (xs : List Tk) : (spans sep xs).length ≤ xs.length := by
  have h := spOut_len sep xs
  unfold spans spOut
  cases ho : (spFold sep xs).opn <;> rw [ho] at h <;> simp at h ⊢ <;> omega

set_option maxHeartbeats 4000000 in
theorem relexSpans_walk (s : ByteArray) (A : Option Addr) (c : Nat) (xs : List Tk) (w : World) (hs : s.size ≤ maxLen) (ha : Toks w w.heap.size A xs) (hL : (A = none → c = 0) ∧ xs.length ≤ maxLen) :
    Calls Try.prog 12 #[.string s, .slice A xs.length c] w fun e w' => e = .returned (.bool true) ∧ Below w.heap.size w w' := by
  obtain ⟨hac, hxl⟩ := hL
  unfold maxLen at hs hxl
  by_cases hb : 20000 < s.size ∨ 5000 < xs.length
  · rcases (show 20000 < s.size ∨ (s.size ≤ 20000 ∧ 5000 < xs.length) by omega) with h1 | ⟨h1, h2⟩
    all_goals
      clear hb ha
      go_enter Try.func12, Try.ntmps12
      go_wp2_with (go_at_call 24; refine (alive9_any _).mono ?_; rintro e w1 ⟨rfl, hb1⟩)
      go_ret
      exact ⟨rfl, hb1⟩
  · have hs1 : s.size ≤ 20000 := by omega
    have hx1 : xs.length ≤ 5000 := by omega
    have hn := lx_length s.toList 0
    rw [size_toList] at hn
    have hl1 := spans_len (sepB s) xs
    have hl2 := spans_len (sepB s) (lx s.toList 0)
    have HL := hide (fun W => lex_any s W (by omega))
    have HRL := hide (fun W => rlex_any s W (by omega))
    generalize lx s.toList 0 = zs at *
    clear hb hs hxl
    go_enter Try.func12, Try.ntmps12
    go_wp2_with fail
    refine (alive9_any _).mono ?_
    rintro e w1 ⟨rfl, hb1⟩
    have ha1 := ha.below hb1
    go_wp2_with fail
    refine (copy_any A c xs _ w1 ha1 hb1.size hac (by omega)).mono ?_
    rintro e w2 ⟨v2, rfl, hown2, _, hb2⟩
    obtain ⟨A2, c2, rfl, ht2⟩ := Toks.of_own hown2
    go_wp2_with fail
    refine (spans_any s A2 c2 xs _ w2 ht2 (Nat.le_refl _) (by omega) (by omega)).mono ?_
    rintro e w3 ⟨v3, rfl, hown3, hb3⟩
    have hb13 : Below w1.heap.size w1 w3 := hb2.trans (hb3.mono hb2.size)
    have hb03 : Below w.heap.size w w3 := hb1.trans (hb13.mono hb1.size)
    have ha3 := ha.below hb03
    go_wp2_with fail
    refine (rspans_any s A c xs _ w3 ha3 hb03.size (by omega) (by omega)).mono ?_
    rintro e w4 ⟨v4, rfl, hown4, hb4⟩
    have hown3' := own_below hown3 hb4
    have hb04 : Below w.heap.size w w4 := hb03.trans (hb4.mono hb03.size)
    go_wp2_with fail
    refine (sameSp_own hown3' hown4 (by omega) (by omega)).mono ?_
    rintro e w5 ⟨rfl, q5, rfl⟩
    have hdec : decide (spans (sepB s) xs = spans (sepB s) xs) = true := by simp
    have HB5 := hide (below_drewN hb04 q5)
    clear hown2 hown3 hown3' hown4 ht2 ha1 ha3 hb1 hb2 hb3 hb4 hb13 hb03 hb04 ha
    go_wp2_with fail
    refine (HL.out _).mono ?_
    rintro e w6 ⟨v6, rfl, hown6, hb6⟩
    obtain ⟨A6, c6, rfl, ht6⟩ := Toks.of_own hown6
    go_wp2_with fail
    refine (spans_any s A6 c6 zs _ w6 ht6 (Nat.le_refl _) (by omega) (by omega)).mono ?_
    rintro e w7 ⟨v7, rfl, hown7, hb7⟩
    go_wp2_with fail
    refine (HRL.out _).mono ?_
    rintro e w8 ⟨v8, rfl, hown8, hb8⟩
    obtain ⟨A8, c8, rfl, ht8⟩ := Toks.of_own hown8
    go_wp2_with fail
    refine (rspans_any s A8 c8 zs _ w8 ht8 (Nat.le_refl _) (by omega) (by omega)).mono ?_
    rintro e w9 ⟨v9, rfl, hown9, hb9⟩
    have hown7' := own_below (own_below hown7 hb8) hb9
    go_wp2_with fail
    refine (sameSp_own hown7' hown9 (by omega) (by omega)).mono ?_
    rintro e wa ⟨rfl, qa, rfl⟩
    have hdec2 : decide (spans (sepB s) zs = spans (sepB s) zs) = true := by simp
    have hs5 : w.heap.size ≤ w4.heap.size := HB5.out.size
    have hs6 := hb6.size
    have hs7 := hb7.size
    have hs8 := hb8.size
    go_wp2
    go_ret
    refine ⟨rfl, below_drewN (HB5.out.trans ((hb6.mono hs5).trans ((hb7.mono ?_).trans ((hb8.mono ?_).trans (hb9.mono ?_))))) _⟩
    · exact Nat.le_trans hs5 hs6
    · exact Nat.le_trans (Nat.le_trans hs5 hs6) hs7
    · exact Nat.le_trans (Nat.le_trans (Nat.le_trans hs5 hs6) hs7) hs8
end Go.Proofs.Ytniofjeefphlmaa
