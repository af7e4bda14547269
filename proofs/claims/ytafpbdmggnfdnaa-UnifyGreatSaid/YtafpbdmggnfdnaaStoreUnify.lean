/- The program's store: Unify, Alike. -/
import Derived.Test.YtafpbdmggnfdnaaStoreUndo
import Derived.Test.YtafpbdmggnfdnaaStoreCycle
namespace Go.Proofs.Ytafpbdmggnfdnaa
open Go.RowKit
set_option linter.unusedVariables false

/-- A store between two calls. -/
structure Ok (S : PS) (c d : Nat → Nat) : Prop where
  inv : PInv S c d
  closed : Closed S.nodes c
  acyc : Acyc S.nodes c

/-- What Unify of two known nodes answers. -/
def UnifyPost (w : World) (base : Nat) (L : Lay) (S : PS) (c d : Nat → Nat) (a b : Nat) (e : Ending) (w' : World) : Prop :=
  ∃ (S' : PS) (c' d' : Nat → Nat) (err : Int), e = .returned (.int .i64 err) ∧ St w' base L S' ∧ S'.nodes = S.nodes ∧ Ok S' c' d' ∧ Only L.fq w w' ∧
    ((err = 0 ∧ Least S.nodes c a b c') ∨ (err = 131 ∧ S' = S ∧ c' = c ∧ ∀ e, ¬ Good S.nodes c a b e) ∨ (err = 130 ∧ S' = S ∧ c' = c ∧ ∃ cl, Least S.nodes c a b cl ∧ ¬ Acyc S.nodes cl))

theorem allIn_two {n a b : Nat} (ha : a < n) (hb : b < n) : allIn n [(a : Int), (b : Int)] = true := by simp [allIn]; omega
set_option maxRecDepth 100000 in
set_option maxHeartbeats 4000000 in
theorem unify_any {w : World} {base : Nat} {L : Lay} {S : PS} {c d : Nat → Nat} (h : St w base L S) (hi : Ok S c d) (a b : Nat) (ha : a < S.nodes.length) (hb : b < S.nodes.length) :
    Calls Try.prog 23 #[.pointer (some ⟨L.g, 0, none⟩), .int .i64 (a : Int), .int .i64 (b : Int)] w (UnifyPost w base L S c d a b) := by
  have hb1 : Below w.heap.size w (w.alloc (.cells #[.int .i64 (a : Int), .int .i64 (b : Int)] 3)) := (Below.refl _ _).alloc (Nat.le_refl _) _
  have HK := hide (known_any (h.later hb1) (some ⟨w.heap.size, 0, none⟩) 2 [(a : Int), (b : Int)] (ints_two w a b _) (by simp))
  rw [allIn_two ha hb] at HK
  obtain ⟨W0, hW0⟩ : ∃ W0, w.alloc (.cells #[.int .i64 (a : Int), .int .i64 (b : Int)] 3) = W0 := ⟨_, rfl⟩
  rw [hW0] at HK hb1
  have HW0 := hide hW0; clear hW0
  have HM := hide (merge_any (h.later hb1) hi.inv hi.closed a b ha hb true)
  have HO0 := hide (Only.of_below hb1 L.fq)
  have Hi := hide hi
  have hn := h.many
  have H0 := hide h
  clear h hi hb1
  go_enter Try.func23, Try.ntmps23
  go_wp2_with fail
  rw [HW0.out]
  refine HK.out.mono ?_
  rintro e w1 ⟨rfl, rfl⟩
  go_wp2_with fail
  refine HM.out.mono ?_
  rintro e w1 ⟨S1, c1, d1, steps, vs, err, rfl, hst1, hn1, hi1, hund, hown, hon, hsl, hkn, hcase⟩
  have O1 := hide (HO0.out.trans hon)
  have HS1 := hide hst1; have Hn1 := hide hn1; have Hi1 := hide hi1; have Hund := hide hund
  have hsl' : steps.length ≤ 1000000 := by rw [hn1] at hsl; omega
  have HU := hide (fun (W : World) (hb : Below w1.heap.size w1 W) => undo_any (hst1.later hb) vs steps (own_keep hown (fun k hk => hb.block k (hown.lt k hk).2)) hkn hsl')
  obtain ⟨A, cap, hvs, -, -⟩ := own_len hown
  have ha1 : a < S1.nodes.length := by rw [hn1]; exact ha
  have HC := hide (cyclic_any hst1 hi1 a ha1)
  rw [hvs] at HU ⊢
  clear hst1 hn1 hi1 hund hown hon hsl hkn HM HK hvs
  rcases hcase with ⟨rfl, hminv, -⟩ | ⟨rfl, hfail⟩
  · have Hminv := hide hminv
    rcases Nat.eq_zero_or_pos steps.length with hz | hz
    · have hs0 : steps = [] := List.eq_nil_of_length_eq_zero hz
      subst hs0
      have hSS : S1 = S := Hund.out
      subst hSS
      go_wp2
      go_ret
      have hu : ∀ i, i < S1.nodes.length → c1 i = c i := fun i hi => Forest.unique Hi1.out.forest Hi.out.inv.forest i hi
      exact ⟨S1, c1, d1, 0, rfl, HS1.out, rfl, ⟨Hi1.out, Hminv.out.done.good.closed, Hi.out.acyc.of (fun i j hi hj e => by rw [← hu i hi, ← hu j hj]; exact e)⟩, O1.out, .inl ⟨rfl, Hminv.out.done⟩⟩
    · have hz' : decide ((0 : Int) < (steps.length : Int)) = true := by simp; omega
      have hz'' : decide (0 < steps.length) = true := by simpa using hz
      go_wp2_with fail
      refine HC.out.mono ?_
      rintro e w2 ⟨hbc, hcy⟩
      rcases hcy with ⟨rfl, hna⟩ | ⟨rfl, st, fin, t, hsr⟩
      · have Hna := hide hna; clear hna
        have HO2 := hide (O1.out.trans (Only.of_below hbc L.fq))
        have HU2 := hide (HU.out w2 hbc); clear hbc
        go_wp2_with fail
        refine HU2.out.mono ?_
        rintro e w3 ⟨⟨v, rfl⟩, hst3, hon3⟩
        rw [Hund.out] at hst3
        have HS3 := hide hst3; have HO3 := hide (HO2.out.trans hon3); clear hst3 hon3
        go_wp2
        go_ret
        exact ⟨S, c, d, 130, rfl, HS3.out, rfl, Hi.out, HO3.out, .inr (.inr ⟨rfl, rfl, rfl, c1, by rw [← Hn1.out]; exact Hminv.out.done, by rw [← Hn1.out]; exact Hna.out⟩)⟩
      · have Hsr := hide hsr; clear hsr
        have HO2 := hide (O1.out.trans (Only.of_below hbc L.fq))
        have HS2 := hide (HS1.out.later hbc); clear hbc
        go_wp2
        go_ret
        refine ⟨S1, c1, d1, 0, rfl, HS2.out, Hn1.out, ⟨Hi1.out, Hminv.out.done.good.closed, ?_⟩, HO2.out, .inl ⟨rfl, by rw [← Hn1.out]; exact Hminv.out.done⟩⟩
        exact Hsr.out.acyc (c0 := c) (b := b) (A := fun i => i) (F := par S1.forms) Hi1.out.wf (by rw [Hn1.out]; exact Hi.out.acyc) Hminv.out ha1 (by rw [Hn1.out]; exact hb) (fun i hi => Hi1.out.forms (c1 i) (Hi1.out.root i hi).1 (Hi1.out.root i hi).2.2) (fun i p _ hp => by unfold argsOf; rw [hp]; rfl)
  · have Hf := hide hfail; clear hfail
    have HU2 := hide (HU.out w1 (Below.refl _ _))
    go_wp2_with fail
    refine HU2.out.mono ?_
    rintro e w3 ⟨⟨v, rfl⟩, hst3, hon3⟩
    rw [Hund.out] at hst3
    have HS3 := hide hst3; have HO3 := hide (O1.out.trans hon3); clear hst3 hon3
    go_wp2
    go_ret
    refine ⟨S, c, d, 131, rfl, HS3.out, rfl, Hi.out, HO3.out, .inr (.inl ⟨rfl, rfl, rfl, ?_⟩)⟩
    have := Hf.out
    unfold Fails at this
    rw [if_pos rfl, Hn1.out] at this
    exact this

set_option maxHeartbeats 1000000 in
theorem unify_no {w : World} {base : Nat} {L : Lay} {S : PS} (h : St w base L S) (a b : Int) (hk : allIn S.nodes.length [a, b] = false) :
    Calls Try.prog 23 #[.pointer (some ⟨L.g, 0, none⟩), .int .i64 a, .int .i64 b] w fun e w' => e = .returned (.int .i64 221) ∧ Below w.heap.size w w' := by
  have hb1 : Below w.heap.size w (w.alloc (.cells #[.int .i64 a, .int .i64 b] 3)) := (Below.refl _ _).alloc (Nat.le_refl _) _
  have HK := hide (known_any (h.later hb1) (some ⟨w.heap.size, 0, none⟩) 2 [a, b] (ints_two w a b _) (by simp))
  rw [hk] at HK
  clear hk hb1
  go_enter Try.func23, Try.ntmps23
  go_wp2_with fail
  refine HK.out.mono ?_
  rintro e w1 ⟨rfl, rfl⟩
  go_wp2
  go_ret
  exact ⟨rfl, (Below.refl _ _).alloc (Nat.le_refl _) _⟩

set_option maxRecDepth 100000 in
set_option maxHeartbeats 4000000 in
theorem alike_any {w : World} {base : Nat} {L : Lay} {S : PS} {c d : Nat → Nat} (h : St w base L S) (hi : Ok S c d) (a b : Nat) (ha : a < S.nodes.length) (hb : b < S.nodes.length) :
    Calls Try.prog 19 #[.pointer (some ⟨L.g, 0, none⟩), .int .i64 (a : Int), .int .i64 (b : Int)] w fun e w' => (∃ r : Bool, e = .returned (.bool r) ∧ (r = true ↔ AlikeIn S.nodes c a b)) ∧ St w' base L S ∧ Only L.fq w w' := by
  have hb1 : Below w.heap.size w (w.alloc (.cells #[.int .i64 (a : Int), .int .i64 (b : Int)] 3)) := (Below.refl _ _).alloc (Nat.le_refl _) _
  have HK := hide (known_any (h.later hb1) (some ⟨w.heap.size, 0, none⟩) 2 [(a : Int), (b : Int)] (ints_two w a b _) (by simp))
  rw [allIn_two ha hb] at HK
  obtain ⟨W0, hW0⟩ : ∃ W0, w.alloc (.cells #[.int .i64 (a : Int), .int .i64 (b : Int)] 3) = W0 := ⟨_, rfl⟩
  rw [hW0] at HK hb1
  have HW0 := hide hW0; clear hW0
  have HM := hide (merge_any (h.later hb1) hi.inv hi.closed a b ha hb false)
  have HO0 := hide (Only.of_below hb1 L.fq)
  have hn := h.many
  clear h hb1
  go_enter Try.func19, Try.ntmps19
  go_wp2_with fail
  rw [HW0.out]
  refine HK.out.mono ?_
  rintro e w1 ⟨rfl, rfl⟩
  go_wp2_with fail
  refine HM.out.mono ?_
  rintro e w1 ⟨S1, c1, d1, steps, vs, err, rfl, hst1, hn1, hi1, hund, hown, hon, hsl, hkn, hcase⟩
  have O1 := hide (HO0.out.trans hon)
  have hsl' : steps.length ≤ 1000000 := by rw [hn1] at hsl; omega
  have HU := hide (undo_any hst1 vs steps hown hkn hsl')
  rw [hund] at HU
  have Hcase := hide hcase; have Hn1 := hide hn1
  obtain ⟨A, cap, hvs, -, -⟩ := own_len hown
  rw [hvs] at HU ⊢
  clear hst1 hn1 hi1 hund hown hon hsl hkn HM HK hvs hcase
  go_wp2_with fail
  refine HU.out.mono ?_
  rintro e w2 ⟨⟨v, rfl⟩, hst2, hon2⟩
  have HS2 := hide hst2; have HO2 := hide (O1.out.trans hon2); clear hst2 hon2
  rcases Hcase.out with ⟨rfl, hm, hs⟩ | ⟨rfl, hf⟩
  · have Hm := hide hm; have Hs := hide (hs trivial); clear hm hs
    go_wp2
    go_ret
    refine ⟨⟨true, rfl, ⟨fun _ => ?_, fun _ => rfl⟩⟩, HS2.out, HO2.out⟩
    rw [← Hn1.out]
    exact ⟨c1, Hm.out.done.good, Hs.out⟩
  · have Hf := hide hf; clear hf
    go_wp2
    go_ret
    refine ⟨⟨false, rfl, ⟨fun h1 => (by cases h1), fun h1 => ?_⟩⟩, HS2.out, HO2.out⟩
    have := Hf.out
    unfold Fails at this
    rw [if_neg (by decide), Hn1.out] at this
    exact absurd h1 this
end Go.Proofs.Ytafpbdmggnfdnaa
