/- The contract of relex.Relex. -/
import Derived.Test.YtniofjeefphlmaaRefLex
import Derived.Test.YtniofjeefphlmaaPlainRelex
import Derived.Deep.RegionHeld3
import Derived.IntWalk
namespace Go.Proofs.Ytniofjeefphlmaa
open Go.RowKit
set_option linter.unusedVariables false

theorem results_four {fn : Func} {t u v x : Tmp} (h : fn.results = #[.tmp t, .tmp u, .tmp v, .tmp x]) (tmps : Array Value) (P : Program) (w : World) :
    (results fn tmps).run P w = .ok (.tuple #[tmps.getD t undef, tmps.getD u undef, tmps.getD v undef, tmps.getD x undef]) w := by simp [results, h]

theorem relex_bad (s : ByteArray) (A : Option Addr) (n c : Nat) (f t : Int) (more : ByteArray) (w : World) (hs : s.size ≤ 1000000) (hbad : f < 0 ∨ t < f ∨ (s.size : Int) < t) :
    Calls Try.prog 26 #[.string s, .slice A n c, .int .i64 f, .int .i64 t, .string more] w fun e w' => e = .returned (.tuple #[.slice none 0 0, .int .i64 0, .int .i64 0, .int .i64 70]) ∧ w = w' := by
  rcases (show f < 0 ∨ (0 ≤ f ∧ t < f) ∨ (0 ≤ f ∧ f ≤ t ∧ (s.size : Int) < t) by omega) with h | ⟨h1, h2⟩ | ⟨h1, h2, h3⟩
  all_goals
    clear hbad
    go_enter Try.func26, Try.ntmps26
    go_wp2
    refine bodyPost_ret (results_four rfl _ _ _) rfl ?_
    exact ⟨rfl, rfl⟩

theorem edit_bytes (s more : ByteArray) (f t : Nat) (hf : f ≤ t) (ht : t ≤ s.size) : (s.extract 0 f ++ more ++ s.extract t s.size).toList = edit s.toList f t more.toList := by
  have h1 := extract_to s 0 f (by omega)
  have h2 := extract_to s t s.size ht
  have app : ∀ a b : ByteArray, (a ++ b).toList = a.toList ++ b.toList := fun a b => by
    rw [ByteArray.toList_eq, ByteArray.toList_eq, ByteArray.toList_eq, ByteArray.data_append, Array.toList_append]
  rw [app, app, h1, h2, List.drop_zero, Nat.sub_zero, List.take_of_length_le (l := s.toList.drop t) (by rw [List.length_drop, size_toList]; omega)]
  rfl

theorem endN_eq (to b : Int) (f : Nat) (xs ys : List Tk) : endN to b f xs ys = endL to b (min (xs.length - f) (ys.length - f)) xs.reverse ys.reverse := rfl
theorem ret_four {v : Value} {a b c d : Nat} (h : a = c) (h' : b = d) : Ending.returned (.tuple #[v, .int .i64 a, .int .i64 b, .int .i64 0]) = .returned (.tuple #[v, .int .i64 c, .int .i64 d, .int .i64 0]) := by rw [h, h']
/-- Tokens whose numbers are small. -/
def Small (xs : List Tk) : Prop := ∀ t ∈ xs, 0 ≤ t.2.1 ∧ t.2.1 ≤ 1000000 ∧ 0 ≤ t.2.2 ∧ t.2.2 ≤ 1000000

set_option maxHeartbeats 4000000 in
theorem relex_good (s : ByteArray) (A : Option Addr) (c : Nat) (xs : List Tk) (B : Nat) (f t : Nat) (more : ByteArray) (w : World) (ha : Toks w B A xs) (hB : B ≤ w.heap.size) (hsm : Small xs) (hx : xs.length ≤ 1000000)
    (hft : f ≤ t) (hts : t ≤ s.size) (hs : s.size ≤ 400000) (hm : more.size ≤ 400000) :
    Calls Try.prog 26 #[.string s, .slice A xs.length c, .int .i64 f, .int .i64 t, .string more] w fun e w' => ∃ v, e = .returned (.tuple #[v, .int .i64 (frontN f xs), .int .i64 (endN t ((more.size : Int) - ((t : Int) - f)) (frontN f xs) xs (lx (edit s.toList f t more.toList) 0)), .int .i64 0]) ∧
      w'.ownsRow w.heap.size 28 3 v (lx (edit s.toList f t more.toList) 0).length (cellsOf (lx (edit s.toList f t more.toList) 0)) ∧ Below w.heap.size w w' := by
  have hE := edit_bytes s more f t hft hts
  have hEs : (s.extract 0 f ++ more ++ s.extract t s.size).size ≤ 1000000 := by simp; omega
  have hyl := lx_length (edit s.toList f t more.toList) 0
  have hylen : (edit s.toList f t more.toList).length ≤ 1000000 := by rw [← hE, size_toList]; exact hEs
  have HL := hide (fun W => lex_any (s.extract 0 f ++ more ++ s.extract t s.size) W hEs)
  rw [hE] at HL
  generalize lx (edit s.toList f t more.toList) 0 = ys at *
  clear hE hEs
  have hz1 : decide ((f : Int) < 0) = false := by simp
  have hz2 : (f : Int) ≤ s.size := by omega
  have hz3 : (t : Int) ≤ s.size := by omega
  have hsl := fun W => run_slice_string_h (P := Try.prog) W 9 s Try.underlying9 .i64 (f : Int) (by omega) hz2
  have hsr := fun W => run_slice_string_l (P := Try.prog) W 9 s Try.underlying9 .i64 (t : Int) (by omega) hz3
  have hc1 := fun W => run_string_add_sum (P := Try.prog) W (s.extract 0 f) more (by simp; omega)
  have hc2 := fun W => run_string_add_sum (P := Try.prog) W (s.extract 0 f ++ more) (s.extract t s.size) (by simp; omega)
  go_enter Try.func26, Try.ntmps26
  go_wp2
  go_region_held3 (fun _ => True) (trivial) (first | (go_at_call 16; refine (HL.out _).mono ?_; rintro e w2 ⟨v2, rfl, hown2, hb2⟩))
  go_wp2
  clear hsl hsr hc1 hc2 HL
  obtain ⟨A2, c2, rfl, ha2⟩ := Toks.of_own hown2
  have Hown2 := hide hown2; clear hown2
  have hbw2 : Below w.heap.size w w2 := (Below.refl _ _).drew.trans hb2
  clear hb2
  have hb2 := hbw2
  clear hbw2
  have ha' := ha.below (hb2.mono hB)
  have hB2 : B ≤ w2.heap.size := Nat.le_trans hB hb2.size
  go_loopw [15, 46] (fun vf vi wr => ∃ i : Nat, i ≤ xs.length ∧ vi = .int .i64 i ∧ vf = .int .i64 (frontN f (xs.take i)) ∧ Below w2.heap.size w2 wr) (fun _ vi _ => xs.length - (intOf vi).toNat)
  case atStart => exact ⟨0, by omega, rfl, by simp [frontN], Below.refl _ _⟩
  case round =>
    obtain ⟨i, hi, rfl, rfl, HB⟩ := hrel
    have hfl := frontN_le (f : Int) (xs.take i)
    rw [List.length_take] at hfl
    by_cases hlt : i < xs.length
    · have HS := hide (frontN_snoc (f : Int) xs i hlt)
      obtain ⟨b, o, rfl, hblk, a1, a2, a3⟩ := (ha'.below (HB.mono hB2)).at_ i hlt
      have hmem := hsm _ (List.getElem_mem hlt)
      generalize xs[i] = X at *
      obtain ⟨x1, x2, x3⟩ := X
      simp only at a1 a2 a3 hmem HS
      obtain ⟨m1, m2, m3, m4⟩ := hmem
      generalize frontN (f : Int) (xs.take i) = F at *
      have hbw : b < wr.heap.size := Nat.lt_of_lt_of_le hblk (Nat.le_trans hB2 HB.size)
      by_cases hc : x3 < (f : Int) - 1
      · go_wp2
        go_roundw
        case rel => exact ⟨i + 1, by omega, by go_num, by rw [HS.out, if_pos hc]; go_num, HB.alloc HB.size _⟩
        case measure => simp [intOf]; omega
      · go_wp2
        go_roundw
        case rel => exact ⟨i + 1, by omega, by go_num, by rw [HS.out, if_neg hc]; rfl, HB.alloc HB.size _⟩
        case measure => simp [intOf]; omega
    · obtain rfl : i = xs.length := by omega
      rw [List.take_length] at hfl ⊢
      have hfl2 := frontN_le (f : Int) xs
      have HEq := hide (endN_eq t ((more.size : Int) - ((t : Int) - f)) (frontN f xs) xs ys)
      obtain ⟨EN, hEN⟩ : ∃ EN, endN t ((more.size : Int) - ((t : Int) - f)) (frontN f xs) xs ys = EN := ⟨_, rfl⟩
      rw [hEN] at HEq
      have HEN := hide hEN; clear hEN
      obtain ⟨F, hF⟩ : ∃ F, frontN (f : Int) xs = F := ⟨_, rfl⟩
      rw [hF] at HEq hfl hfl2 ⊢
      have HF := hide hF; clear hF
      have hmv : ∃ mv : Int, (more.size : Int) - ((t : Int) - f) = mv ∧ -1000000 ≤ mv ∧ mv ≤ 1000000 := ⟨_, rfl, by omega, by omega⟩
      obtain ⟨mv, hmv1, hmv2, hmv3⟩ := hmv
      rw [hmv1] at HEq
      have HEM := hide (HEN.out)
      rw [hmv1] at HEM
      have hw1 : Below w.heap.size w wr := hb2.trans (HB.mono hb2.size)
      have ha3 := ha'.below (HB.mono hB2)
      have ha4 := ha2.below HB
      have hB3 : B ≤ wr.heap.size := Nat.le_trans hB2 HB.size
      have hB4 : w2.heap.size ≤ wr.heap.size := HB.size
      have Hown3 := hide (own_below Hown2.out HB)
      clear ha ha' ha2 hb2 HB Hown2 hB2 hB hz1 hz2 hz3
      obtain ⟨wo, rfl⟩ : ∃ wo : World, wo = wr := ⟨_, rfl⟩
      go_wp2
      go_loopw [19] (fun ve wr => ∃ E : Nat, E ≤ xs.length - F ∧ E ≤ ys.length - F ∧ ve = .int .i64 E ∧ Hid (EN = E + endL t mv (min (xs.length - F) (ys.length - F) - E) (xs.reverse.drop E) (ys.reverse.drop E)) ∧ Below wo.heap.size wo wr) (fun ve _ => xs.length - (intOf ve).toNat)
      case atStart => exact ⟨0, by omega, by omega, rfl, hide (by rw [HEq.out]; simp), Below.refl _ _⟩
      case round =>
        obtain ⟨E, hE1, hE2, rfl, HI, HB⟩ := hrel
        by_cases hlt : E < xs.length - F ∧ E < ys.length - F
        · obtain ⟨hl1, hl2⟩ := hlt
          have hl1' : (E : Int) < (xs.length : Int) - F := by omega
          have hl2' : (E : Int) < (ys.length : Int) - F := by omega
          obtain ⟨b, o, rfl, hblk, a1, a2, a3⟩ := (ha3.below (HB.mono hB3)).at_ (xs.length - 1 - E) (by omega)
          obtain ⟨b2, o2, rfl, hblk2, d1, d2, d3⟩ := (ha4.below (HB.mono hB4)).at_ (ys.length - 1 - E) (by omega)
          have hmem := hsm _ (List.getElem_mem (show xs.length - 1 - E < xs.length by omega))
          have hi := HI.out
          rw [rev_drop xs E (by omega), rev_drop ys E (by omega), show min (xs.length - F) (ys.length - F) - E = (min (xs.length - F) (ys.length - F) - (E + 1)) + 1 by omega, endL_step] at hi
          obtain ⟨X, hX⟩ : ∃ X, xs[xs.length - 1 - E]'(by omega) = X := ⟨_, rfl⟩
          obtain ⟨Y, hY⟩ : ∃ Y, ys[ys.length - 1 - E]'(by omega) = Y := ⟨_, rfl⟩
          rw [hX] at a1 a2 a3 hmem hi
          rw [hY] at d1 d2 d3 hi
          clear hX hY
          obtain ⟨x1, x2, x3⟩ := X
          obtain ⟨y1, y2, y3⟩ := Y
          simp only at a1 a2 a3 d1 d2 d3 hmem hi
          obtain ⟨m1, m2, m3, m4⟩ := hmem
          have HJ := hide hi; clear hi
          have hbw : b < wr.heap.size := Nat.lt_of_lt_of_le hblk (Nat.le_trans hB3 HB.size)
          have hbw2 : b2 < wr.heap.size := Nat.lt_of_lt_of_le hblk2 (Nat.le_trans hB4 HB.size)
          by_cases hc : x2 < (t : Int)
          · go_wp2
            refine bodyPost_ret (results_four rfl _ _ _) rfl ?_
            have h := HJ.out
            rw [if_pos hc, Nat.add_zero] at h
            first | exact ⟨_, ret_four HF.out.symm (h.symm.trans HEN.out.symm), own_below Hown3.out (HB.alloc HB.size _), hw1.trans ((HB.alloc HB.size _).mono hw1.size)⟩ | exact ⟨_, ret_four HF.out.symm (h.symm.trans HEM.out.symm), own_below Hown3.out (HB.alloc HB.size _), hw1.trans ((HB.alloc HB.size _).mono hw1.size)⟩
          · have hg := tokGuard
            by_cases he : (x1, x2 + mv, x3 + mv) = (y1, y2, y3)
            · simp only [Prod.mk.injEq] at he
              obtain ⟨rfl, rfl, rfl⟩ := he
              have hq := fun W => tok_neq x1 (x2 + mv) (x3 + mv) x1 (x2 + mv) (x3 + mv) W
              simp only [beq_self_eq_true, Bool.and_true, Bool.not_true] at hq
              go_wp2
              go_quiet (fail)
              go_wp2
              go_roundw
              case rel => exact ⟨E + 1, by omega, by omega, by go_num, hide (by rw [HJ.out, if_neg (by omega), if_pos (by trivial)]; omega), below_drewN (HB.alloc HB.size _) _⟩
              case measure => simp [intOf]; omega
            · have hq := fun W => tok_neq x1 (x2 + mv) (x3 + mv) y1 y2 y3 W
              have hv : (x1 == y1 && x2 + mv == y2 && x3 + mv == y3) = false := by
                rw [Bool.eq_false_iff]; simp only [Prod.mk.injEq] at he; simpa [and_assoc] using he
              rw [hv, Bool.not_false] at hq
              go_wp2
              go_quiet (fail)
              go_wp2
              refine bodyPost_ret (results_four rfl _ _ _) rfl ?_
              have h := HJ.out
              rw [if_neg (by omega), if_neg he, Nat.add_zero] at h
              first | exact ⟨_, ret_four HF.out.symm (h.symm.trans HEN.out.symm), own_below Hown3.out (below_drewN (HB.alloc HB.size _) _), hw1.trans ((below_drewN (HB.alloc HB.size _) _).mono hw1.size)⟩ | exact ⟨_, ret_four HF.out.symm (h.symm.trans HEM.out.symm), own_below Hown3.out (below_drewN (HB.alloc HB.size _) _), hw1.trans ((below_drewN (HB.alloc HB.size _) _).mono hw1.size)⟩
        · have h := HI.out
          rw [show min (xs.length - F) (ys.length - F) - E = 0 by omega] at h
          rw [show endL t mv 0 (xs.reverse.drop E) (ys.reverse.drop E) = 0 by simp [endL], Nat.add_zero] at h
          have HH := hide h; clear h
          rcases (show ((E : Int) < (xs.length : Int) - F ∧ ¬ (E : Int) < (ys.length : Int) - F) ∨ ¬ (E : Int) < (xs.length : Int) - F by omega) with ⟨q1, q2⟩ | q1
          all_goals
            go_wp2
            refine bodyPost_ret (results_four rfl _ _ _) rfl ?_
            first | exact ⟨_, ret_four HF.out.symm (HH.out.symm.trans HEN.out.symm), own_below Hown3.out HB, hw1.trans (HB.mono hw1.size)⟩ | exact ⟨_, ret_four HF.out.symm (HH.out.symm.trans HEM.out.symm), own_below Hown3.out HB, hw1.trans (HB.mono hw1.size)⟩
end Go.Proofs.Ytniofjeefphlmaa
