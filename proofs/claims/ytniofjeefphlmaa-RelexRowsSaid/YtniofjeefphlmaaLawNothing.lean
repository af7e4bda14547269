/- The walks of the statements' alive of layer 9, and of the law RelexNothing. -/
import Derived.Test.YtniofjeefphlmaaRelex
namespace Go.Proofs.Ytniofjeefphlmaa
open Go.RowKit
set_option linter.unusedVariables false

theorem small_lx (l : Bs) (h : l.length ≤ 1000000) : Small (lx l 0) := by
  intro t ht
  have := lx_mem l t ht
  omega

def al9 : Bs := [108, 101, 116, 32, 120, 32, 61, 32, 49]
theorem al9_lex : lx al9 0 = [(5, 0, 3), (1, 4, 5), (6, 6, 7), (3, 8, 9)] := by decide
theorem al9_edit : lx (edit al9 5 5 [121]) 0 = [(5, 0, 3), (1, 4, 6), (6, 7, 8), (3, 9, 10)] := by decide
theorem al9_front : frontN 5 [(5, 0, 3), (1, 4, 5), (6, 6, 7), (3, 8, 9)] = 1 := by decide
theorem al9_end : endN 5 1 1 [(5, 0, 3), (1, 4, 5), (6, 6, 7), (3, 8, 9)] [(5, 0, 3), (1, 4, 6), (6, 7, 8), (3, 9, 10)] = 2 := by decide

set_option maxHeartbeats 1000000 in
theorem alive9_any (w : World) : Calls Try.prog 24 #[] w fun e w' => e = .returned (.bool true) ∧ Below w.heap.size w w' := by
  have hl := fun W => lex_any ⟨al9.toArray⟩ W (by decide)
  rw [show (ByteArray.mk al9.toArray).toList = al9 from ByteArray.toList_mk _, al9_lex] at hl
  have HL := hide hl; clear hl
  have HR : Hid (∀ (W : World) (A : Option Addr) (c B : Nat), Toks W B A [(5, 0, 3), (1, 4, 5), (6, 6, 7), (3, 8, 9)] → B ≤ W.heap.size → Calls Try.prog 26 #[.string ⟨al9.toArray⟩, .slice A 4 c, .int .i64 5, .int .i64 5, .string ⟨#[121]⟩] W fun e w' => ∃ v, e = .returned (.tuple #[v, .int .i64 1, .int .i64 2, .int .i64 0]) ∧
      w'.ownsRow W.heap.size 28 3 v 4 (cellsOf [(5, 0, 3), (1, 4, 6), (6, 7, 8), (3, 9, 10)]) ∧ Below W.heap.size W w') := by
    refine hide fun W A c B ha hB => ?_
    have h := relex_good ⟨al9.toArray⟩ A c [(5, 0, 3), (1, 4, 5), (6, 6, 7), (3, 8, 9)] B 5 5 ⟨#[121]⟩ W ha hB (by rw [← al9_lex]; exact small_lx _ (by decide)) (by decide) (by decide) (by decide) (by decide) (by decide)
    rw [show (ByteArray.mk al9.toArray).toList = al9 from ByteArray.toList_mk _, show (ByteArray.mk #[121]).toList = [121] from ByteArray.toList_mk [121], al9_edit, show ((5 : Nat) : Int) = 5 from rfl, al9_front, show ((ByteArray.mk #[121]).size : Int) - ((5 : Int) - 5) = 1 from rfl, al9_end] at h
    exact h
  go_enter Try.func24, Try.ntmps24
  go_wp2_with fail
  refine (HL.out _).mono ?_
  rintro e w1 ⟨v1, rfl, hown1, hb1⟩
  obtain ⟨A, c, rfl, ha⟩ := Toks.of_own hown1
  go_wp2_with fail
  refine (HR.out w1 A c _ ha (Nat.le_refl _)).mono ?_
  rintro e w2 ⟨v2, rfl, hown2, hb2⟩
  obtain ⟨A2, c2, rfl, ha2⟩ := Toks.of_own (xs := [(5, 0, 3), (1, 4, 6), (6, 7, 8), (3, 9, 10)]) hown2
  obtain ⟨b, o, rfl, _, a1, a2, a3⟩ := ha2.at_ 1 (by simp)
  simp only [List.getElem_cons_succ, List.getElem_cons_zero, Nat.one_mul] at a1 a2 a3
  have hq := fun W => tok_eql 1 4 6 1 4 6 W
  simp only [beq_self_eq_true, Bool.and_true] at hq
  have hg := tokGuard
  have HB : Hid (Below w.heap.size w w2) := hide (hb1.trans (hb2.mono hb1.size))
  clear hown1 hown2 hb1 hb2 ha ha2
  go_wp2
  go_ret
  exact ⟨rfl, HB.out⟩

set_option maxHeartbeats 2000000 in
theorem relexNothing_walk (s : ByteArray) (f t : Int) (w : World) (hs : s.size ≤ maxLen) (hf : (Lit.int .i64 f).wf = true) (ht : (Lit.int .i64 t).wf = true) :
    Calls Try.prog 11 #[.string s, .int .i64 f, .int .i64 t] w fun e w' => e = .returned (.bool true) ∧ Below w.heap.size w w' := by
  unfold maxLen at hs
  clear hf ht
  by_cases hb : 20000 < s.size ∨ f < 0 ∨ t < f ∨ (s.size : Int) < t
  · rcases (show 20000 < s.size ∨ (s.size ≤ 20000 ∧ f < 0) ∨ (s.size ≤ 20000 ∧ 0 ≤ f ∧ t < f) ∨ (s.size ≤ 20000 ∧ 0 ≤ f ∧ f ≤ t ∧ (s.size : Int) < t) by omega) with h1 | ⟨h1, h2⟩ | ⟨h1, h2, h3⟩ | ⟨h1, h2, h3, h4⟩
    all_goals
      clear hb
      go_enter Try.func11, Try.ntmps11
      go_wp2_with (go_at_call 24; refine (alive9_any _).mono ?_; rintro e w1 ⟨rfl, hb1⟩)
      go_ret
      exact ⟨rfl, hb1⟩
  · obtain ⟨a, rfl⟩ := Int.eq_ofNat_of_zero_le (show 0 ≤ f by omega)
    obtain ⟨b, rfl⟩ := Int.eq_ofNat_of_zero_le (show 0 ≤ t by omega)
    have hs1 : s.size ≤ 20000 := by omega
    have hab : a ≤ b := by omega
    have hbs : b ≤ s.size := by omega
    clear hb hs
    have hn := lx_length s.toList 0
    rw [size_toList] at hn
    have HW := hide (whole_lx s.toList)
    have HS := hide (small_lx s.toList (by rw [size_toList]; omega))
    have HN := hide (nothing_sum s.toList a b (by omega) (lx s.toList 0) 0 HW.out)
    have HR := hide (fun W A c xs B ha hB hsm hx => relex_good s A c xs B a b (s.extract a b) W ha hB hsm hx hab hbs (by omega) (by simp; omega))
    rw [extract_to s a b hab, edit_same s.toList a b hab (by rw [size_toList]; exact hbs), show ((s.extract a b).size : Int) - ((b : Int) - a) = 0 by simp; omega] at HR
    have HL := hide (fun W => lex_any s W (by omega))
    have HM := hide (lx_mem s.toList)
    generalize lx s.toList 0 = xs at *
    have d1 : decide ((20000 : Int) < (s.size : Int)) = false := by simp; omega
    have d2 : decide ((a : Int) < 0) = false := by simp
    have d3 : decide ((b : Int) < (a : Int)) = false := by simp; omega
    have d4 : decide ((s.size : Int) < (b : Int)) = false := by simp; omega
    go_enter Try.func11, Try.ntmps11
    go_wp2_with (first
      | (go_at_call 24; refine (alive9_any _).mono ?_; rintro e w1 ⟨rfl, hb1⟩)
      | (go_at_call 16; refine (HL.out _).mono ?_; rintro e w2 ⟨v2, rfl, hown2, hb2⟩; obtain ⟨A, c, rfl, ha⟩ := Toks.of_own hown2)
      | (go_at_call 26; refine (HR.out w2 A c xs _ ha (Nat.le_refl _) HS.out (by omega)).mono ?_; rintro e w3 ⟨v3, rfl, hown3, hb3⟩)
      | (go_at_call 15; refine (same_own hown3 (own_below hown2 hb3) (by omega) (by omega)).mono ?_; rintro e w4 ⟨rfl, q4, rfl⟩))
    have ha3 := ha.below hb3
    have HBB : Hid (Below w.heap.size w (w3.drewN q4)) := hide (below_drewN (hb1.trans ((hb2.mono hb1.size).trans (hb3.mono (by have := hb1.size; have := hb2.size; omega)))) _)
    have hfl := frontN_le (a : Int) xs
    have hel := (endN_le (b : Int) 0 (frontN (a : Int) xs) xs xs).1
    obtain ⟨EN, hEN⟩ : ∃ EN, endN (b : Int) 0 (frontN (a : Int) xs) xs xs = EN := ⟨_, rfl⟩
    obtain ⟨F, hF⟩ : ∃ F, frontN (a : Int) xs = F := ⟨_, rfl⟩
    rw [hF] at hEN hel HN hfl
    rw [hEN] at hel HN
    rw [hF, hEN]
    clear hF hEN hb1 hb2 hb3 hown2 hown3 HR HL ha
    go_loop [12, 13] (fun vc vi => ∃ i : Nat, i ≤ xs.length ∧ vi = .int .i64 i ∧ vc = .int .i64 (insideN a b (xs.take i))) (fun _ vi => xs.length - (intOf vi).toNat)
    case atStart => exact ⟨0, by omega, rfl, by simp [insideN]⟩
    case round =>
      obtain ⟨i, hi, rfl, rfl⟩ := hrel
      have hil : insideN a b (xs.take i) ≤ xs.length := by
        unfold insideN
        have := List.length_filter_le (isIn a b) (xs.take i)
        rw [List.length_take] at this
        omega
      by_cases hlt : i < xs.length
      · have HSn := hide (insideN_snoc (a : Int) b xs i hlt)
        obtain ⟨bb, o, rfl, hblk, a1, a2, a3⟩ := ha3.at_ i hlt
        have hmem := HM.out _ (List.getElem_mem hlt)
        obtain ⟨X, hX⟩ : ∃ X, xs[i] = X := ⟨_, rfl⟩
        rw [hX] at a1 a2 a3 hmem HSn
        clear hX
        obtain ⟨x1, x2, x3⟩ := X
        simp only at a1 a2 a3 hmem HSn
        obtain ⟨m1, m2, m3⟩ := hmem
        rw [size_toList] at m3
        obtain ⟨I, hI⟩ : ∃ I, insideN (a : Int) b (xs.take i) = I := ⟨_, rfl⟩
        rw [hI] at HSn hil ⊢
        clear hI
        rcases (show ((a : Int) - 1 ≤ x3 ∧ x2 < b) ∨ ((a : Int) - 1 ≤ x3 ∧ ¬ x2 < b) ∨ ¬ (a : Int) - 1 ≤ x3 by omega) with ⟨c1, c2⟩ | ⟨c1, c2⟩ | c1
        · have hs1 : insideN (a : Int) b (xs.take (i + 1)) = I + 1 := by rw [HSn.out, if_pos ⟨c1, c2⟩]
          have HS1 := hide hs1; clear hs1
          go_wp2
          go_round
          case rel => exact ⟨i + 1, by omega, by go_num, by rw [HS1.out]; go_num⟩
          case measure => simp [intOf]; omega
        · have hs1 : insideN (a : Int) b (xs.take (i + 1)) = I := by rw [HSn.out, if_neg (fun h => c2 h.2)]; rfl
          have HS1 := hide hs1; clear hs1
          go_wp2
          go_round
          case rel => exact ⟨i + 1, by omega, by go_num, by rw [HS1.out]⟩
          case measure => simp [intOf]; omega
        · have hs1 : insideN (a : Int) b (xs.take (i + 1)) = I := by rw [HSn.out, if_neg (fun h => c1 h.1)]; rfl
          have HS1 := hide hs1; clear hs1
          go_wp2
          go_round
          case rel => exact ⟨i + 1, by omega, by go_num, by rw [HS1.out]⟩
          case measure => simp [intOf]; omega
      · obtain rfl : i = xs.length := by omega
        rw [List.take_length] at hil ⊢
        have hsum := HN.out
        obtain ⟨I, hI⟩ : ∃ I, insideN (a : Int) b xs = I := ⟨_, rfl⟩
        rw [hI] at hsum hil ⊢
        clear hI
        have hfin : ((F : Int) + EN + I == xs.length) = true := by simp only [beq_iff_eq]; omega
        have HSum := hide hsum; clear hsum
        go_wp2
        go_ret
        exact ⟨rfl, HBB.out⟩
end Go.Proofs.Ytniofjeefphlmaa
