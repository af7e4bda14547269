/- The walk of the law LexWhole. -/
import Derived.Test.YtniofjeefphlmaaToks
import Derived.Test.YtniofjeefphlmaaPlainWhole
namespace Go.Proofs.Ytniofjeefphlmaa
open Go.RowKit
set_option linter.unusedVariables false

def gapA (s : ByteArray) (j f : Nat) (d : Int) : Bool := gapL ((s.toList.drop j).take (f - j)) d
theorem gapA_at (s : ByteArray) (j f : Nat) (d : Int) (hj : j < f) (hf : f ≤ s.size) : gapA s j f d =
    if j + 1 < f ∧ byt s j = 40 ∧ byt s (j + 1) = 42 then gapA s (j + 2) f (d + 1)
    else if 0 < d ∧ j + 1 < f ∧ byt s j = 42 ∧ byt s (j + 1) = 41 then gapA s (j + 2) f (d - 1)
    else if d = 0 ∧ whiteB (byt s j) = false then false else gapA s (j + 1) f d := by
  unfold gapA
  obtain ⟨c, hc, e⟩ := drop_byt s j (by omega)
  by_cases h2 : j + 1 < f
  · obtain ⟨c2, hc2, e2⟩ := drop_byt s (j + 1) (by omega)
    rw [e, e2, show f - j = (f - (j + 2)) + 1 + 1 by omega, List.take_succ_cons, List.take_succ_cons, gapL, ← hc, ← hc2]
    rw [show f - (j + 1) = (f - (j + 2)) + 1 by omega, List.take_succ_cons]
    simp [opensL, closesL, h2]
  · obtain rfl : f = j + 1 := by omega
    rw [e, show j + 1 - j = 1 by omega, List.take_succ_cons, List.take_zero, gapL, ← hc]
    simp [gapL]

set_option maxRecDepth 100000 in
set_option maxHeartbeats 4000000 in
theorem lexWhole_walk (s : ByteArray) (w : World) (hs : s.size ≤ maxLen) :
    Calls Try.prog 4 #[.string s] w fun e w' => e = .returned (.bool true) ∧ Below w.heap.size w w' := by
  unfold maxLen at hs
  by_cases hb : 20000 < s.size
  · go_enter Try.func4, Try.ntmps4
    go_wp2_with (go_at_call 14; refine (alive_any _).mono ?_; rintro e w1 ⟨rfl, hb1⟩)
    go_ret
    exact ⟨rfl, hb1⟩
  · have hn := lx_length s.toList 0
    rw [size_toList] at hn
    have HW := hide (whole_lx s.toList)
    go_enter Try.func4, Try.ntmps4
    go_wp2_with (first
      | (go_at_call 14; refine (alive_any _).mono ?_; rintro e w1 ⟨rfl, hb1⟩)
      | (go_at_call 16; refine (lex_any s _ (by omega)).mono ?_; rintro e w2 ⟨v2, rfl, hown2, hb2⟩; obtain ⟨A, c, rfl, ha⟩ := Toks.of_own hown2))
    generalize hxs : lx s.toList 0 = xs at *
    clear hxs hown2
    have hbb : Below w.heap.size w w2 := hb1.trans (hb2.mono hb1.size)
    clear hb2 hb1
    go_loop [4, 5] (fun ve vi => ∃ i e : Nat, i ≤ xs.length + 1 ∧ e ≤ s.size ∧ vi = .int .i64 i ∧ ve = .int .i64 e ∧ Hid (i ≤ xs.length → Whole s.toList e (xs.drop i))) (fun _ vi => xs.length + 1 - (intOf vi).toNat)
    case atStart => exact ⟨0, 0, by omega, by omega, rfl, rfl, hide (fun _ => by simpa using HW.out)⟩
    case round =>
      obtain ⟨i, e, hi, he, rfl, rfl, HI⟩ := hrel
      by_cases hil : i ≤ xs.length
      · have hwi := HI.out hil
        rcases Nat.lt_or_eq_of_le hil with hlt | rfl
        · rw [List.drop_eq_getElem_cons hlt] at hwi
          obtain ⟨f, t, hf, ht, hef, hft, htl, hg, hwr⟩ := hwi
          rw [size_toList] at htl
          obtain ⟨b, o, rfl, _, a1, a2, a3⟩ := ha.at_ i hlt
          rw [hf] at a2
          rw [ht] at a3
          have HG : Hid (gapA s e f 0 = true) := hide hg
          have HWR := hide hwr
          clear hf ht hg hwr a1
          go_wp2
          go_loop [7, 8] (fun vd vj => ∃ (j : Nat) (d : Int), e ≤ j ∧ j ≤ f ∧ 0 ≤ d ∧ d ≤ j ∧ vj = .int .i64 j ∧ vd = .int .i64 d ∧ Hid (gapA s j f d = true)) (fun _ vj => f - (intOf vj).toNat)
          case atStart => exact ⟨e, 0, Nat.le_refl _, by omega, by omega, by omega, rfl, rfl, HG⟩
          case round =>
            obtain ⟨j, d, hej, hjf, hd0, hdj, rfl, rfl, HJ⟩ := hrel
            by_cases hjlt : j < f
            · have hgs := HJ.out
              rw [gapA_at s j f d hjlt (by omega)] at hgs
              have e1 := byt_eq s j (by omega)
              by_cases h2 : j + 1 < f
              · have e2 := byt_eq s (j + 1) (by omega)
                generalize byt s j = x at *
                generalize byt s (j + 1) = y at *
                by_cases hA : x = 40 ∧ y = 42
                · obtain ⟨rfl, rfl⟩ := hA
                  rw [if_pos ⟨h2, rfl, rfl⟩] at hgs
                  have HGS := hide hgs; clear hgs
                  go_wp2
                  go_round
                  case rel => exact ⟨j + 2, d + 1, by omega, by omega, by omega, by omega, by go_num, rfl, HGS⟩
                  case measure => simp [intOf]; omega
                · rw [if_neg (fun h => hA h.2)] at hgs
                  by_cases hB : 0 < d ∧ x = 42 ∧ y = 41
                  · obtain ⟨hd, rfl, rfl⟩ := hB
                    rw [if_pos ⟨hd, h2, rfl, rfl⟩] at hgs
                    have HGS := hide hgs; clear hgs hA
                    go_wp2
                    go_round
                    case rel => exact ⟨j + 2, d - 1, by omega, by omega, by omega, by omega, by go_num, rfl, HGS⟩
                    case measure => simp [intOf]; omega
                  · rw [if_neg (fun h => hB ⟨h.1, h.2.2⟩)] at hgs
                    by_cases hC : d = 0
                    · subst hC
                      have hwx : whiteB x = true := by
                        cases hq : whiteB x
                        · rw [if_pos ⟨rfl, hq⟩] at hgs; exact absurd hgs (by decide)
                        · rfl
                      rw [if_neg (by simp [hwx])] at hgs
                      have HGS := hide hgs; clear hgs hA hB
                      rcases (show x = 32 ∨ x = 9 ∨ x = 10 ∨ x = 13 by simp [whiteB] at hwx; omega) with rfl | rfl | rfl | rfl
                      all_goals
                        clear hwx
                        go_wp2
                        go_round
                        case rel => exact ⟨j + 1, 0, by omega, by omega, by omega, by omega, by go_num, rfl, HGS⟩
                        case measure => simp [intOf]; omega
                    · rw [if_neg (fun h => hC h.1)] at hgs
                      have HGS := hide hgs; clear hgs
                      have hd1 : 0 < d := by omega
                      have hd2 : (d == 0) = false := by simpa using hC
                      rcases (show (x = 40 ∧ (y == 42) = false) ∨ ((x == 40) = false ∧ x = 42 ∧ (y == 41) = false) ∨ ((x == 40) = false ∧ (x == 42) = false) by
                        simp only [beq_eq_false_iff_ne]; omega) with ⟨rfl, hy⟩ | ⟨hx, rfl, hy⟩ | ⟨hx, hx2⟩
                      all_goals
                        clear hA hB hC
                        go_wp2
                        go_round
                        case rel => exact ⟨j + 1, d, by omega, by omega, by omega, by omega, by go_num, rfl, HGS⟩
                        case measure => simp [intOf]; omega
              · generalize byt s j = x at *
                rw [if_neg (fun h => h2 h.1), if_neg (fun h => h2 h.2.1)] at hgs
                by_cases hC : d = 0
                · subst hC
                  have hwx : whiteB x = true := by
                    cases hq : whiteB x
                    · rw [if_pos ⟨rfl, hq⟩] at hgs; exact absurd hgs (by decide)
                    · rfl
                  rw [if_neg (by simp [hwx])] at hgs
                  have HGS := hide hgs; clear hgs
                  rcases (show x = 32 ∨ x = 9 ∨ x = 10 ∨ x = 13 by simp [whiteB] at hwx; omega) with rfl | rfl | rfl | rfl
                  all_goals
                    clear hwx
                    go_wp2
                    go_round
                    case rel => exact ⟨j + 1, 0, by omega, by omega, by omega, by omega, by go_num, rfl, HGS⟩
                    case measure => simp [intOf]; omega
                · rw [if_neg (fun h => hC h.1)] at hgs
                  have HGS := hide hgs; clear hgs
                  have hd2 : (d == 0) = false := by simpa using hC
                  clear hC
                  go_wp2
                  go_round
                  case rel => exact ⟨j + 1, d, by omega, by omega, by omega, by omega, by go_num, rfl, HGS⟩
                  case measure => simp [intOf]; omega
            · obtain rfl : j = f := by omega
              have hgz := HJ.out
              obtain rfl : d = 0 := by
                unfold gapA at hgz
                rw [Nat.sub_self, List.take_zero, gapL] at hgz
                simpa using hgz
              clear hgz
              go_wp2
              go_round
              case rel => exact ⟨i + 1, t, by omega, htl, by go_num, rfl, hide (fun _ => HWR.out)⟩
              case measure => simp [intOf]; omega
        · rw [List.drop_of_length_le (Nat.le_refl _)] at hwi
          obtain ⟨hle, hg⟩ := hwi
          have HG : Hid (gapA s e s.size 0 = true) := hide (by unfold gapA; rw [List.take_of_length_le (by rw [List.length_drop, size_toList]; omega)]; exact hg)
          clear hg hle
          go_wp2
          go_loop [7, 8] (fun vd vj => ∃ (j : Nat) (d : Int), e ≤ j ∧ j ≤ s.size ∧ 0 ≤ d ∧ d ≤ j ∧ vj = .int .i64 j ∧ vd = .int .i64 d ∧ Hid (gapA s j s.size d = true)) (fun _ vj => s.size - (intOf vj).toNat)
          case atStart => exact ⟨e, 0, Nat.le_refl _, by omega, by omega, by omega, rfl, rfl, HG⟩
          case round =>
            obtain ⟨j, d, hej, hjf, hd0, hdj, rfl, rfl, HJ⟩ := hrel
            by_cases hjlt : j < s.size
            · have hgs := HJ.out
              rw [gapA_at s j s.size d hjlt (Nat.le_refl _)] at hgs
              have e1 := byt_eq s j (by omega)
              by_cases h2 : j + 1 < s.size
              · have e2 := byt_eq s (j + 1) (by omega)
                generalize byt s j = x at *
                generalize byt s (j + 1) = y at *
                by_cases hA : x = 40 ∧ y = 42
                · obtain ⟨rfl, rfl⟩ := hA
                  rw [if_pos ⟨h2, rfl, rfl⟩] at hgs
                  have HGS := hide hgs; clear hgs
                  go_wp2
                  go_round
                  case rel => exact ⟨j + 2, d + 1, by omega, by omega, by omega, by omega, by go_num, rfl, HGS⟩
                  case measure => simp [intOf]; omega
                · rw [if_neg (fun h => hA h.2)] at hgs
                  by_cases hB : 0 < d ∧ x = 42 ∧ y = 41
                  · obtain ⟨hd, rfl, rfl⟩ := hB
                    rw [if_pos ⟨hd, h2, rfl, rfl⟩] at hgs
                    have HGS := hide hgs; clear hgs hA
                    go_wp2
                    go_round
                    case rel => exact ⟨j + 2, d - 1, by omega, by omega, by omega, by omega, by go_num, rfl, HGS⟩
                    case measure => simp [intOf]; omega
                  · rw [if_neg (fun h => hB ⟨h.1, h.2.2⟩)] at hgs
                    by_cases hC : d = 0
                    · subst hC
                      have hwx : whiteB x = true := by
                        cases hq : whiteB x
                        · rw [if_pos ⟨rfl, hq⟩] at hgs; exact absurd hgs (by decide)
                        · rfl
                      rw [if_neg (by simp [hwx])] at hgs
                      have HGS := hide hgs; clear hgs hA hB
                      rcases (show x = 32 ∨ x = 9 ∨ x = 10 ∨ x = 13 by simp [whiteB] at hwx; omega) with rfl | rfl | rfl | rfl
                      all_goals
                        clear hwx
                        go_wp2
                        go_round
                        case rel => exact ⟨j + 1, 0, by omega, by omega, by omega, by omega, by go_num, rfl, HGS⟩
                        case measure => simp [intOf]; omega
                    · rw [if_neg (fun h => hC h.1)] at hgs
                      have HGS := hide hgs; clear hgs
                      have hd1 : 0 < d := by omega
                      have hd2 : (d == 0) = false := by simpa using hC
                      rcases (show (x = 40 ∧ (y == 42) = false) ∨ ((x == 40) = false ∧ x = 42 ∧ (y == 41) = false) ∨ ((x == 40) = false ∧ (x == 42) = false) by
                        simp only [beq_eq_false_iff_ne]; omega) with ⟨rfl, hy⟩ | ⟨hx, rfl, hy⟩ | ⟨hx, hx2⟩
                      all_goals
                        clear hA hB hC
                        go_wp2
                        go_round
                        case rel => exact ⟨j + 1, d, by omega, by omega, by omega, by omega, by go_num, rfl, HGS⟩
                        case measure => simp [intOf]; omega
              · generalize byt s j = x at *
                rw [if_neg (fun h => h2 h.1), if_neg (fun h => h2 h.2.1)] at hgs
                by_cases hC : d = 0
                · subst hC
                  have hwx : whiteB x = true := by
                    cases hq : whiteB x
                    · rw [if_pos ⟨rfl, hq⟩] at hgs; exact absurd hgs (by decide)
                    · rfl
                  rw [if_neg (by simp [hwx])] at hgs
                  have HGS := hide hgs; clear hgs
                  rcases (show x = 32 ∨ x = 9 ∨ x = 10 ∨ x = 13 by simp [whiteB] at hwx; omega) with rfl | rfl | rfl | rfl
                  all_goals
                    clear hwx
                    go_wp2
                    go_round
                    case rel => exact ⟨j + 1, 0, by omega, by omega, by omega, by omega, by go_num, rfl, HGS⟩
                    case measure => simp [intOf]; omega
                · rw [if_neg (fun h => hC h.1)] at hgs
                  have HGS := hide hgs; clear hgs
                  have hd2 : (d == 0) = false := by simpa using hC
                  clear hC
                  go_wp2
                  go_round
                  case rel => exact ⟨j + 1, d, by omega, by omega, by omega, by omega, by go_num, rfl, HGS⟩
                  case measure => simp [intOf]; omega
            · obtain rfl : s.size = j := by omega
              have hgz := HJ.out
              obtain rfl : d = 0 := by
                unfold gapA at hgz
                rw [Nat.sub_self, List.take_zero, gapL] at hgz
                simpa using hgz
              clear hgz
              go_wp2
              go_round
              case rel => exact ⟨xs.length + 1, e, by omega, he, by go_num, rfl, hide (fun h => by omega)⟩
              case measure => simp [intOf]
      · go_wp2
        go_ret
        exact ⟨rfl, hbb⟩
end Go.Proofs.Ytniofjeefphlmaa
