/- The walk of the law RelexEdits. -/
import Derived.Test.YtniofjeefphlmaaRefRelex
import Derived.Test.YtniofjeefphlmaaCopy
import Derived.Test.YtniofjeefphlmaaLawNothing
namespace Go.Proofs.Ytniofjeefphlmaa
open Go.RowKit
set_option linter.unusedVariables false

theorem front_same (l : Bs) (f : Int) : frontW f (lx l 0) = frontN f (lx l 0) := by
  unfold frontW frontN; rw [front_while l f _ 0 (whole_lx l)]
theorem own_form {w : World} {base : Nat} {e : TypeId} {size n : Nat} {v : Value} {xs : List Value} (h : w.ownsRow base e size v n xs) (hn : 0 < n) : ∃ g cap, v = .slice (some ⟨g, 0, none⟩) n cap := by
  rcases h.2 with ⟨_, h2⟩ | ⟨g, cap, cur, h1, _⟩
  · omega
  · exact ⟨g, cap, h1⟩
theorem own_ahead {w : World} {base : Nat} {e : TypeId} {g cap : Nat} {xs : List Tk} {y : Tk} (h : w.ownsRow base e 3 (.slice (some ⟨g, 0, none⟩) (xs.length + 1) cap) (xs.length + 1) (cellsOf (xs ++ [y]))) :
    Toks w w.heap.size (some ⟨g, 0, none⟩) xs ∧ w.cell? ⟨g, xs.length * 3, none⟩ = some (.int .i64 y.1) ∧ xs.length + 1 ≤ cap ∧ g < w.heap.size ∧ base ≤ g := by
  have hc := h.cells (g := g) rfl
  obtain ⟨hb, hl⟩ := h.lt g rfl
  refine ⟨fun _ => ⟨g, 0, rfl, hl, fun j u hu => ?_⟩, ?_, ?_, hl, hb⟩
  · have := hc j u (by rw [cellsOf_snoc, List.getElem?_append_left (by have := (List.getElem?_eq_some_iff.1 hu).1; exact this)]; exact hu)
    rwa [addr_add] at this
  · have := hc (xs.length * 3) (.int .i64 y.1) (by rw [cellsOf_snoc, List.getElem?_append_right (by rw [cellsOf_length]; exact Nat.le_refl _), cellsOf_length, Nat.sub_self]; rfl)
    rwa [addr_add, Nat.zero_add] at this
  · rcases h.2 with ⟨e1, _⟩ | ⟨g', cap', cur, e1, _, _, h3, _⟩
    · cases e1
    · injection e1 with _ _ e3; omega

set_option maxHeartbeats 4000000 in
theorem relexEdits_walk (s : ByteArray) (f t : Int) (more : ByteArray) (w : World) (hs : s.size ≤ 140737488351232) (hf : (Lit.int .i64 f).wf = true) (ht : (Lit.int .i64 t).wf = true) (hm : more.size ≤ 140737488351232) :
    Calls Try.prog 9 #[.string s, .int .i64 f, .int .i64 t, .string more] w fun e w' => e = .returned (.bool true) ∧ Below w.heap.size w w' := by
  clear hf ht
  by_cases hb : 20000 < s.size + more.size
  · have hb' : (20000 : Int) < (s.size : Int) + more.size := by omega
    go_enter Try.func9, Try.ntmps9
    go_wp2_with (go_at_call 24; refine (alive9_any _).mono ?_; rintro e w1 ⟨rfl, hb1⟩)
    go_ret
    exact ⟨rfl, hb1⟩
  · have hs1 : s.size ≤ 20000 := by omega
    have hm1 : more.size ≤ 20000 := by omega
    have hbn : decide ((20000 : Int) < (s.size : Int) + more.size) = false := by simp; omega
    have hn := lx_length s.toList 0
    rw [size_toList] at hn
    have HS := hide (small_lx s.toList (by rw [size_toList]; omega))
    have HL := hide (fun W => rlex_any s W (by omega))
    obtain ⟨i0, hi, hz0, hz1, hz2⟩ := info_parts tokInfo
    have Hi := hide hi; have Hz0 := hide hz0; have Hz1 := hide hz1; have Hz2 := hide hz2; clear hi hz0 hz1 hz2
    by_cases hbad : f < 0 ∨ t < f ∨ (s.size : Int) < t
    · have HR := hide (fun A n c W => relex_bad s A n c f t more W (by omega) hbad)
      have HRR := hide (fun A n c W => rrelex_bad s A n c f t more W (by omega) hbad)
      generalize lx s.toList 0 = xs at *
      clear hb hbad
      go_enter Try.func9, Try.ntmps9
      go_wp2_with (first
        | (go_at_call 24; refine (alive9_any _).mono ?_; rintro e w1 ⟨rfl, hb1⟩)
        | (go_at_call 17; refine (HL.out _).mono ?_; rintro e w2 ⟨v2, rfl, hown2, hb2⟩; obtain ⟨A, c, rfl, ha, hac⟩ := toks_own hown2)
        | (go_at_call 25; refine (copy_any A c xs _ w2 ha (Nat.le_refl _) hac (by omega)).mono ?_; rintro e w3 ⟨v3, rfl, hown3, hnn3, hb3⟩)
        | (at_builtin; go_must (refine wpList_append_own _ rfl (.tmp 30) (.tmp 32) 24 rfl w2.heap.size 28 i0 _ 3 24 Try.underlying24 Hi.out Hz0.out Hz1.out Hz2.out rfl (by decide) _ xs.length (cellsOf xs) rfl (hown3.alloc _) ⟨w3.heap.size, 0, none⟩ 1 1 [.int .i64 9, .int .i64 0, .int .i64 0] rfl rfl (cell_three_new _ _ _ _ _) (by intro u hu; simp at hu; rcases hu with rfl | rfl <;> rfl) (by unfold maxLen; omega) (by omega) (by have := hb3.size; simp; omega) ?_); intro v4 w4 hown4 hgrow4 hnil4; obtain ⟨g, cap, rfl⟩ := own_form hown4 (by omega); obtain ⟨hT4, hK4, hcap4, hg4, hbg4⟩ := own_ahead (xs := xs) (y := (9, 0, 0)) (by simpa [cellsOf_snoc, cell3] using hown4)))
      have hb4 : Below w2.heap.size w2 w4 := ((hb3.alloc hb3.size _).grown hgrow4 (by have := hb3.size; simp; omega) (fun k hk => (hown3.lt k hk).1))
      have HB4' := hide hb4
      have Hb12 := hide (hb1.trans (hb2.mono hb1.size))
      have ha4 := ha.below hb4
      clear hown2 hown3 hown4 hgrow4 hnil4 hb1 hb2 hb3 hb4 ha HL hnn3 hac
      go_wp2_with fail
      refine (HR.out _ _ _ _).mono ?_
      rintro e w5 ⟨rfl, rfl⟩
      go_wp2_with fail
      refine (HRR.out _ _ _ _).mono ?_
      rintro e w6 ⟨rfl, rfl⟩
      go_wp2_with fail
      refine (same_any none none 0 0 [] [] 0 0 w4 (fun h => absurd rfl h) (fun h => absurd rfl h) (by simp) (by simp)).mono ?_
      rintro e w7 ⟨rfl, q7, rfl⟩
      have hdec : decide (([] : List Tk) = []) = true := rfl
      go_wp2_with fail
      refine (same_any (some ⟨g, 0, none⟩) A cap c xs xs _ _ (w4.drewN q7) hT4 ha4 (by omega) (by omega)).mono ?_
      rintro e w8 ⟨rfl, q8, rfl⟩
      have hdec2 : decide (xs = xs) = true := by simp
      go_wp2
      go_ret
      exact ⟨rfl, Hb12.out.trans ((below_drewN HB4'.out _).mono Hb12.out.size)⟩
    · obtain ⟨a, rfl⟩ := Int.eq_ofNat_of_zero_le (show 0 ≤ f by omega)
      obtain ⟨b, rfl⟩ := Int.eq_ofNat_of_zero_le (show 0 ≤ t by omega)
      have hab : a ≤ b := by omega
      have hbs : b ≤ s.size := by omega
      have HR := hide (fun W A c xs B ha hB hsm hx => relex_good s A c xs B a b more W ha hB hsm hx hab hbs (by omega) (by omega))
      have HRR := hide (fun W A c xs B ha hB hsm hx => rrelex_good s A c xs B a b more W ha hB hsm hx hab hbs (by omega) (by omega))
      have HFs := hide (front_same s.toList a)
      have hyl := lx_length (edit s.toList a b more.toList) 0
      have hyl2 : (edit s.toList a b more.toList).length ≤ 100000 := by
        unfold edit
        rw [List.length_append, List.length_append, List.length_take, List.length_drop, size_toList, size_toList]
        omega
      generalize lx s.toList 0 = xs at *
      generalize lx (edit s.toList a b more.toList) 0 = ys at *
      clear hb hbad
      go_enter Try.func9, Try.ntmps9
      go_wp2_with (first
        | (go_at_call 24; refine (alive9_any _).mono ?_; rintro e w1 ⟨rfl, hb1⟩)
        | (go_at_call 17; refine (HL.out _).mono ?_; rintro e w2 ⟨v2, rfl, hown2, hb2⟩; obtain ⟨A, c, rfl, ha, hac⟩ := toks_own hown2)
        | (go_at_call 25; refine (copy_any A c xs _ w2 ha (Nat.le_refl _) hac (by omega)).mono ?_; rintro e w3 ⟨v3, rfl, hown3, hnn3, hb3⟩)
        | (at_builtin; refine wpList_append_own _ rfl (.tmp 30) (.tmp 32) 24 rfl w2.heap.size 28 i0 _ 3 24 Try.underlying24 Hi.out Hz0.out Hz1.out Hz2.out rfl (by decide) _ xs.length (cellsOf xs) rfl (hown3.alloc _) ⟨w3.heap.size, 0, none⟩ 1 1 [.int .i64 9, .int .i64 0, .int .i64 0] rfl rfl (cell_three_new _ _ _ _ _) (by intro u hu; simp at hu; rcases hu with rfl | rfl <;> rfl) (by unfold maxLen; omega) (by omega) (by have := hb3.size; simp; omega) ?_; intro v4 w4 hown4 hgrow4 hnil4; obtain ⟨g, cap, rfl⟩ := own_form hown4 (by omega); obtain ⟨hT4, hK4, hcap4, hg4, hbg4⟩ := own_ahead (xs := xs) (y := (9, 0, 0)) (by simpa [cellsOf_snoc, cell3] using hown4)))
      have hb4 : Below w2.heap.size w2 w4 := ((hb3.alloc hb3.size _).grown hgrow4 (by have := hb3.size; simp; omega) (fun k hk => (hown3.lt k hk).1))
      have HB4' := hide hb4
      have Hb12 := hide (hb1.trans (hb2.mono hb1.size))
      have ha4 := ha.below hb4
      have h24 := hb4.size
      clear hown2 hown3 hown4 hgrow4 hnil4 hb1 hb2 hb3 hb4 ha HL hnn3 hac
      go_wp2_with fail
      refine (HR.out w4 (some ⟨g, 0, none⟩) cap xs _ hT4 (Nat.le_refl _) HS.out (by omega)).mono ?_
      rintro e w5 ⟨v5, rfl, hown5, hb5⟩
      have ha5 := ha4.below (hb5.mono h24)
      have hT5 := hT4.below hb5
      have hK5 : w5.cell? ⟨g, xs.length * 3, none⟩ = some (.int .i64 9) := by rw [hb5.cell (p := ⟨g, xs.length * 3, none⟩) hg4]; exact hK4
      go_wp2_with fail
      refine (HRR.out w5 A c xs _ ha5 (Nat.le_trans h24 hb5.size) HS.out (by omega)).mono ?_
      rintro e w6 ⟨v6, rfl, hown6, hb6⟩
      have hg5 : g < w5.heap.size := Nat.lt_of_lt_of_le hg4 hb5.size
      have ha6 := ha5.below (hb6.mono (Nat.le_trans h24 hb5.size))
      have hT6 := hT5.below (hb6.mono hb5.size)
      have hK6 : w6.cell? ⟨g, xs.length * 3, none⟩ = some (.int .i64 9) := by rw [hb6.cell (p := ⟨g, xs.length * 3, none⟩) hg5]; exact hK5
      rw [HFs.out]
      clear hK4 hK5
      have hown5' := own_below hown5 hb6
      have HB6 := hide (HB4'.out.trans ((hb5.mono h24).trans (hb6.mono (Nat.le_trans h24 hb5.size))))
      go_wp2_with fail
      refine (same_own hown5' hown6 (by omega) (by omega)).mono ?_
      rintro e w7 ⟨rfl, q7, rfl⟩
      have hdec : decide (ys = ys) = true := by simp
      have hdec2 : decide (xs = xs) = true := by simp
      clear hown5 hown5' hown6 hb5 hb6
      generalize endN (b : Int) ((more.size : Int) - ((b : Int) - a)) (frontN (a : Int) xs) xs ys = EN at *
      generalize frontN (a : Int) xs = F at *
      have e1 : ((F : Int) == (F : Int)) = true := by simp
      have e2 : ((EN : Int) == (EN : Int)) = true := by simp
      go_wp2_with fail
      refine (same_any (some ⟨g, 0, none⟩) A cap c xs xs _ _ (w6.drewN q7) hT6 ha6 (by omega) (by omega)).mono ?_
      rintro e w8 ⟨rfl, q8, rfl⟩
      go_wp2
      go_ret
      exact ⟨rfl, Hb12.out.trans ((below_drewN HB6.out _).mono Hb12.out.size)⟩
end Go.Proofs.Ytniofjeefphlmaa
