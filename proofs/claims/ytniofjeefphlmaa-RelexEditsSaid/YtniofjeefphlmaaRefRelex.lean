/- The contract of the reference's Relex. -/
import Derived.Test.YtniofjeefphlmaaRelex
namespace Go.Proofs.Ytniofjeefphlmaa
open Go.RowKit
set_option linter.unusedVariables false

def frontW (f : Int) (xs : List Tk) : Nat := (xs.takeWhile (isFront f)).length
theorem frontW_le (f : Int) (xs : List Tk) : frontW f xs ≤ xs.length := (List.takeWhile_sublist _).length_le
theorem takeWhile_cut (p : Tk → Bool) : ∀ (l : List Tk) (i : Nat), i ≤ l.length → (∀ j (hj : j < i) (h : j < l.length), p l[j] = true) → (∀ (h : i < l.length), p l[i] = false) → (l.takeWhile p).length = i := by
  intro l
  induction l with
  | nil => intro i hi _ _; simp at hi; simp [hi]
  | cons x l ih =>
    intro i hi h1 h2
    rcases i with _ | i
    · have := h2 (by simp); simp at this; simp [this]
    · have hx := h1 0 (by omega) (by simp)
      simp only [List.getElem_cons_zero] at hx
      rw [List.takeWhile_cons, if_pos hx, List.length_cons, ih i (by simpa using hi) (fun j hj h => by have := h1 (j + 1) (by omega) (by simpa using h); simpa using this) (fun h => by have := h2 (by simpa using h); simpa using this)]

theorem rrelex_bad (s : ByteArray) (A : Option Addr) (n c : Nat) (f t : Int) (more : ByteArray) (w : World) (hs : s.size ≤ 1000000) (hbad : f < 0 ∨ t < f ∨ (s.size : Int) < t) :
    Calls Try.prog 27 #[.string s, .slice A n c, .int .i64 f, .int .i64 t, .string more] w fun e w' => e = .returned (.tuple #[.slice none 0 0, .int .i64 0, .int .i64 0, .int .i64 70]) ∧ w = w' := by
  rcases (show f < 0 ∨ (0 ≤ f ∧ t < f) ∨ (0 ≤ f ∧ f ≤ t ∧ (s.size : Int) < t) by omega) with h | ⟨h1, h2⟩ | ⟨h1, h2, h3⟩
  all_goals
    clear hbad
    go_enter Try.func27, Try.ntmps27
    go_wp2
    refine bodyPost_ret (results_four rfl _ _ _) rfl ?_
    exact ⟨rfl, rfl⟩

set_option maxRecDepth 100000 in
set_option maxHeartbeats 4000000 in
theorem rrelex_good (s : ByteArray) (A : Option Addr) (c : Nat) (xs : List Tk) (B : Nat) (f t : Nat) (more : ByteArray) (w : World) (ha : Toks w B A xs) (hB : B ≤ w.heap.size) (hsm : Small xs) (hx : xs.length ≤ 1000000)
    (hft : f ≤ t) (hts : t ≤ s.size) (hs : s.size ≤ 400000) (hm : more.size ≤ 400000) :
    Calls Try.prog 27 #[.string s, .slice A xs.length c, .int .i64 f, .int .i64 t, .string more] w fun e w' => ∃ v, e = .returned (.tuple #[v, .int .i64 (frontW f xs), .int .i64 (endN t ((more.size : Int) - ((t : Int) - f)) (frontW f xs) xs (lx (edit s.toList f t more.toList) 0)), .int .i64 0]) ∧
      w'.ownsRow w.heap.size 28 3 v (lx (edit s.toList f t more.toList) 0).length (cellsOf (lx (edit s.toList f t more.toList) 0)) ∧ Below w.heap.size w w' := by
  have hE := edit_bytes s more f t hft hts
  have hEs : (s.extract 0 f ++ more ++ s.extract t s.size).size ≤ 1000000 := by simp; omega
  have hyl := lx_length (edit s.toList f t more.toList) 0
  have hylen : (edit s.toList f t more.toList).length ≤ 1000000 := by rw [← hE, size_toList]; exact hEs
  have HL := hide (fun W => rlex_any (s.extract 0 f ++ more ++ s.extract t s.size) W hEs)
  rw [hE] at HL
  generalize lx (edit s.toList f t more.toList) 0 = ys at *
  clear hE hEs
  have hz1 : decide ((f : Int) < 0) = false := by simp
  have hz2 : (f : Int) ≤ s.size := by omega
  have hz3 : (t : Int) ≤ s.size := by omega
  have hsl := fun W => run_slice_string_h (P := Try.prog) W 9 s Try.underlying9 .i64 (f : Int) (by omega) hz2
  have hsr := fun W => run_slice_string_l (P := Try.prog) W 9 s Try.underlying9 .i64 (t : Int) (by omega) hz3
  have hc1 := fun W => run_string_add_sum (P := Try.prog) W (s.extract 0 f) more (by simp; omega)
  have hc2 := fun W => run_string_add_sum (P := Try.prog) W (s.extract 0 f ++ more) (s.extract t s.size) (by simp; omega)
  go_enter Try.func27, Try.ntmps27
  go_wp2
  go_region_held3 (fun _ => True) (trivial) (first | (go_at_call 17; refine (HL.out _).mono ?_; rintro e w2 ⟨v2, rfl, hown2, hb2⟩))
  go_wp2
  clear hsl hsr hc1 hc2 HL
  obtain ⟨A2, c2, rfl, ha2⟩ := Toks.of_own hown2
  have Hown2 := hide hown2; clear hown2
  have hbw2 : Below w.heap.size w w2 := (Below.refl _ _).drew.trans hb2
  clear hb2
  have hb2 := hbw2
  clear hbw2
  have ha' := ha.below (hb2.mono hB)
  have hB2 : B ≤ w2.heap.size := Nat.le_trans hB hb2.size
  go_loop [15] (fun vf => ∃ i : Nat, i ≤ xs.length ∧ vf = .int .i64 i ∧ Hid (∀ j (hj : j < i) (h : j < xs.length), isFront f xs[j] = true)) (fun vf => xs.length - (intOf vf).toNat)
  case atStart => exact ⟨0, by omega, rfl, hide (by intro j hj; omega)⟩
  case round =>
    obtain ⟨i, hi, rfl, HIn⟩ := hrel
    by_cases hgo : ∃ h : i < xs.length, xs[i].2.2 < (f : Int) - 1
    · obtain ⟨hlt, hc⟩ := hgo
      obtain ⟨b, o, rfl, hblk, a1, a2, a3⟩ := ha'.at_ i hlt
      obtain ⟨X, hX⟩ : ∃ X, xs[i] = X := ⟨_, rfl⟩
      have HX := hide hX
      rw [hX] at a1 a2 a3 hc
      clear hX
      obtain ⟨x1, x2, x3⟩ := X
      simp only at a1 a2 a3 hc
      go_wp2
      go_round
      case rel => exact ⟨i + 1, by omega, by go_num, hide (by
        intro j hj h
        rcases Nat.lt_succ_iff_lt_or_eq.1 hj with h' | rfl
        · exact HIn.out j h' h
        · rw [HX.out]; simp [isFront]; omega)⟩
      case measure => simp [intOf]; omega
    · have hF0 : frontW (f : Int) xs = i := by
        unfold frontW
        refine takeWhile_cut _ xs i hi (fun j hj h => HIn.out j hj h) (fun h => ?_)
        simp only [isFront, decide_eq_false_iff_not]
        intro hc
        exact hgo ⟨h, hc⟩
      have HF := hide hF0
      have HEq := hide (endN_eq t ((more.size : Int) - ((t : Int) - f)) (frontW f xs) xs ys)
      have HEN := hide (endN_eq t ((more.size : Int) - ((t : Int) - f)) (frontW f xs) xs ys)
      obtain ⟨EN, hEN⟩ : ∃ EN, endN t ((more.size : Int) - ((t : Int) - f)) (frontW f xs) xs ys = EN := ⟨_, rfl⟩
      clear HEN
      rw [hEN] at HEq
      have HEN := hide hEN; clear hEN
      rw [hF0] at HEq
      clear hF0 HIn
      obtain ⟨F, rfl⟩ : ∃ F, F = i := ⟨_, rfl⟩
      have hstop : F < xs.length → ∃ b o x3, A = some ⟨b, o, none⟩ ∧ b < B ∧ w2.cell? ⟨b, o + F * 3 + 2, none⟩ = some (.int .i64 x3) ∧ ¬ x3 < (f : Int) - 1 := by
        intro h
        obtain ⟨b, o, e, hblk, a1, a2, a3⟩ := ha'.at_ F h
        exact ⟨b, o, _, e, hblk, a3, fun hc => hgo ⟨h, hc⟩⟩
      clear hgo
      have hmv : ∃ mv : Int, (more.size : Int) - ((t : Int) - f) = mv ∧ -1000000 ≤ mv ∧ mv ≤ 1000000 := ⟨_, rfl, by omega, by omega⟩
      obtain ⟨mv, hmv1, hmv2, hmv3⟩ := hmv
      rw [hmv1] at HEq
      have HEM := hide (HEN.out)
      rw [hmv1] at HEM
      have Hmv1 := hide hmv1; clear hmv1
      have hw1 : Below w.heap.size w w2 := hb2
      have ha3 := ha'
      have ha4 := ha2
      have hB3 : B ≤ w2.heap.size := hB2
      have hB4 : w2.heap.size ≤ w2.heap.size := Nat.le_refl _
      have Hown3 := Hown2
      clear ha ha' ha2 hb2 Hown2 hB2 hB hz1 hz2 hz3
      have hfl : F ≤ xs.length := hi
      have hcase : (F < xs.length ∧ ∃ b o x3, A = some ⟨b, o, none⟩ ∧ b < B ∧ w2.cell? ⟨b, o + F * 3 + 2, none⟩ = some (.int .i64 x3) ∧ ¬ x3 < (f : Int) - 1) ∨ xs.length ≤ F := by
        rcases Nat.lt_or_ge F xs.length with h | h
        · exact .inl ⟨h, hstop h⟩
        · exact .inr h
      clear hstop
      rcases hcase with ⟨hFl, b0, o0, z3, rfl, hblk0, q3, hc0⟩ | hFl
      · go_wp2
        try simp only [Hmv1.out]
        go_loopw [17] (fun ve wr => ∃ E : Nat, E ≤ xs.length - F ∧ E ≤ ys.length - F ∧ ve = .int .i64 E ∧ Hid (EN = E + endL t mv (min (xs.length - F) (ys.length - F) - E) (xs.reverse.drop E) (ys.reverse.drop E)) ∧ Below w2.heap.size w2 wr) (fun ve _ => xs.length - (intOf ve).toNat)
        case atStart => exact ⟨0, by omega, by omega, rfl, hide (by rw [HEq.out]; simp), Below.refl _ _⟩
        case round =>
          obtain ⟨E, hE1, hE2, rfl, HI, HB⟩ := hrel
          try clear q3
          by_cases hlt : E < xs.length - F ∧ E < ys.length - F
          · obtain ⟨hl1, hl2⟩ := hlt
            have hl1' : (E : Int) < (xs.length : Int) - F := by omega
            have hl2' : (E : Int) < (ys.length : Int) - F := by omega
            obtain ⟨b, o, hA, hblk, a1, a2, a3⟩ := (ha3.below (HB.mono hB3)).at_ (xs.length - 1 - E) (by omega)
            obtain ⟨b2, o2, rfl, hblk2, d1, d2, d3⟩ := (ha4.below (HB.mono hB4)).at_ (ys.length - 1 - E) (by omega)
            first | subst hA | (injection hA with hA; injection hA with hA1 hA2 hA3; subst hA1 hA2)
            have hmem := hsm _ (List.getElem_mem (show xs.length - 1 - E < xs.length by omega))
            have hi := HI.out
            rw [rev_drop xs E (by omega), rev_drop ys E (by omega), show min (xs.length - F) (ys.length - F) - E = (min (xs.length - F) (ys.length - F) - (E + 1)) + 1 by omega, endL_step] at hi
            obtain ⟨X, hX⟩ : ∃ X, xs[xs.length - 1 - E]'(by omega) = X := ⟨_, rfl⟩
            obtain ⟨Y, hY⟩ : ∃ Y, ys[ys.length - 1 - E]'(by omega) = Y := ⟨_, rfl⟩
            rw [hX] at a1 a2 a3 hmem hi
            rw [hY] at d1 d2 d3 hi
            clear hX hY
            obtain ⟨x1, x2, x3⟩ := X
            obtain ⟨y1, y2, y3⟩ := Y
            simp only at a1 a2 a3 d1 d2 d3 hmem hi
            obtain ⟨m1, m2, m3, m4⟩ := hmem
            have HJ := hide hi; clear hi
            have hbw := Nat.lt_of_lt_of_le hblk (Nat.le_trans hB3 HB.size)
            have hbw2 : b2 < wr.heap.size := Nat.lt_of_lt_of_le hblk2 (Nat.le_trans hB4 HB.size)
            have HB9 : ∀ o1 o2, Below w2.heap.size w2 ((wr.alloc o1).alloc o2) := fun o1 o2 => (HB.alloc HB.size o1).alloc (by have := HB.size; simp; omega) o2
            have HHB9 := hide HB9; clear HB9
            rcases (show x2 < (t : Int) ∨ ((t : Int) ≤ x2 ∧ (x1 != y1) = true) ∨ ((t : Int) ≤ x2 ∧ x1 = y1 ∧ (x2 + mv != y2) = true) ∨ ((t : Int) ≤ x2 ∧ x1 = y1 ∧ x2 + mv = y2 ∧ (x3 + mv != y3) = true) ∨ ((t : Int) ≤ x2 ∧ x1 = y1 ∧ x2 + mv = y2 ∧ x3 + mv = y3) by
              simp only [bne_iff_ne]; omega) with g | ⟨g1, g2⟩ | ⟨g1, rfl, g2⟩ | ⟨g1, rfl, rfl, g2⟩ | ⟨g1, rfl, rfl, rfl⟩
            · have h := HJ.out
              rw [if_pos g, Nat.add_zero] at h
              have HH := hide h; clear h
              go_wp2
              refine bodyPost_ret (results_four rfl _ _ _) rfl ?_
              first | exact ⟨_, ret_four HF.out.symm (HH.out.symm.trans HEN.out.symm), own_below Hown3.out (HHB9.out _ _), hw1.trans ((HHB9.out _ _).mono hw1.size)⟩ | exact ⟨_, ret_four HF.out.symm (HH.out.symm.trans HEM.out.symm), own_below Hown3.out (HHB9.out _ _), hw1.trans ((HHB9.out _ _).mono hw1.size)⟩
            · have h := HJ.out
              rw [if_neg (by omega), if_neg (by simp at g2; simp; intro h; exact absurd h g2), Nat.add_zero] at h
              have HH := hide h; clear h
              go_wp2
              refine bodyPost_ret (results_four rfl _ _ _) rfl ?_
              first | exact ⟨_, ret_four HF.out.symm (HH.out.symm.trans HEN.out.symm), own_below Hown3.out (HHB9.out _ _), hw1.trans ((HHB9.out _ _).mono hw1.size)⟩ | exact ⟨_, ret_four HF.out.symm (HH.out.symm.trans HEM.out.symm), own_below Hown3.out (HHB9.out _ _), hw1.trans ((HHB9.out _ _).mono hw1.size)⟩
            · have h := HJ.out
              rw [if_neg (by omega), if_neg (by simp at g2; simp; intro h; exact absurd h g2), Nat.add_zero] at h
              have HH := hide h; clear h
              have hxx : (x1 != x1) = false := by simp
              go_wp2
              refine bodyPost_ret (results_four rfl _ _ _) rfl ?_
              first | exact ⟨_, ret_four HF.out.symm (HH.out.symm.trans HEN.out.symm), own_below Hown3.out (HHB9.out _ _), hw1.trans ((HHB9.out _ _).mono hw1.size)⟩ | exact ⟨_, ret_four HF.out.symm (HH.out.symm.trans HEM.out.symm), own_below Hown3.out (HHB9.out _ _), hw1.trans ((HHB9.out _ _).mono hw1.size)⟩
            · have h := HJ.out
              rw [if_neg (by omega), if_neg (by simp at g2; simp; exact g2), Nat.add_zero] at h
              have HH := hide h; clear h
              have hxx : (x1 != x1) = false := by simp
              have hxy : (x2 + mv != x2 + mv) = false := by simp
              go_wp2
              refine bodyPost_ret (results_four rfl _ _ _) rfl ?_
              first | exact ⟨_, ret_four HF.out.symm (HH.out.symm.trans HEN.out.symm), own_below Hown3.out (HHB9.out _ _), hw1.trans ((HHB9.out _ _).mono hw1.size)⟩ | exact ⟨_, ret_four HF.out.symm (HH.out.symm.trans HEM.out.symm), own_below Hown3.out (HHB9.out _ _), hw1.trans ((HHB9.out _ _).mono hw1.size)⟩
            · have h := HJ.out
              rw [if_neg (by omega), if_pos (by trivial)] at h
              have HH := hide h; clear h
              have hxx : (x1 != x1) = false := by simp
              have hxy : (x2 + mv != x2 + mv) = false := by simp
              have hxz : (x3 + mv != x3 + mv) = false := by simp
              go_wp2
              go_roundw
              case rel => exact ⟨E + 1, by omega, by omega, by go_num, hide (by rw [HH.out]; omega), HHB9.out _ _⟩
              case measure => simp [intOf]; omega
          · have h := HI.out
            rw [show min (xs.length - F) (ys.length - F) - E = 0 by omega] at h
            rw [show endL t mv 0 (xs.reverse.drop E) (ys.reverse.drop E) = 0 by simp [endL], Nat.add_zero] at h
            have HH := hide h; clear h
            rcases (show ((E : Int) < (xs.length : Int) - F ∧ ¬ (E : Int) < (ys.length : Int) - F) ∨ ¬ (E : Int) < (xs.length : Int) - F by omega) with ⟨q1, q2⟩ | q1
            all_goals
              go_wp2
              refine bodyPost_ret (results_four rfl _ _ _) rfl ?_
              first | exact ⟨_, ret_four HF.out.symm (HH.out.symm.trans HEN.out.symm), own_below Hown3.out HB, hw1.trans (HB.mono hw1.size)⟩ | exact ⟨_, ret_four HF.out.symm (HH.out.symm.trans HEM.out.symm), own_below Hown3.out HB, hw1.trans (HB.mono hw1.size)⟩
      · go_wp2
        try simp only [Hmv1.out]
        go_loopw [17] (fun ve wr => ∃ E : Nat, E ≤ xs.length - F ∧ E ≤ ys.length - F ∧ ve = .int .i64 E ∧ Hid (EN = E + endL t mv (min (xs.length - F) (ys.length - F) - E) (xs.reverse.drop E) (ys.reverse.drop E)) ∧ Below w2.heap.size w2 wr) (fun ve _ => xs.length - (intOf ve).toNat)
        case atStart => exact ⟨0, by omega, by omega, rfl, hide (by rw [HEq.out]; simp), Below.refl _ _⟩
        case round =>
          obtain ⟨E, hE1, hE2, rfl, HI, HB⟩ := hrel
          try clear q3
          have hlt : ¬ (E < xs.length - F ∧ E < ys.length - F) := by omega
          have h := HI.out
          rw [show min (xs.length - F) (ys.length - F) - E = 0 by omega] at h
          rw [show endL t mv 0 (xs.reverse.drop E) (ys.reverse.drop E) = 0 by simp [endL], Nat.add_zero] at h
          have HH := hide h; clear h
          rcases (show ((E : Int) < (xs.length : Int) - F ∧ ¬ (E : Int) < (ys.length : Int) - F) ∨ ¬ (E : Int) < (xs.length : Int) - F by omega) with ⟨q1, q2⟩ | q1
          all_goals
            go_wp2
            refine bodyPost_ret (results_four rfl _ _ _) rfl ?_
            first | exact ⟨_, ret_four HF.out.symm (HH.out.symm.trans HEN.out.symm), own_below Hown3.out HB, hw1.trans (HB.mono hw1.size)⟩ | exact ⟨_, ret_four HF.out.symm (HH.out.symm.trans HEM.out.symm), own_below Hown3.out HB, hw1.trans (HB.mono hw1.size)⟩
end Go.Proofs.Ytniofjeefphlmaa
