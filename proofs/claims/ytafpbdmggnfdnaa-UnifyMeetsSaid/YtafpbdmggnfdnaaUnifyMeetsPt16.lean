/- Part 16 of the proof of UnifyMeets: what follows was kept as these texts: Duo, LawMeets. -/
import Derived.Test.YtafpbdmggnfdnaaUnifyMeetsPt1
import Derived.Test.YtafpbdmggnfdnaaUnifyMeetsPt2
import Derived.Test.YtafpbdmggnfdnaaUnifyMeetsPt3
import Derived.Test.YtafpbdmggnfdnaaUnifyMeetsPt4
import Derived.Test.YtafpbdmggnfdnaaUnifyMeetsPt5
import Derived.Test.YtafpbdmggnfdnaaUnifyMeetsPt6
import Derived.Test.YtafpbdmggnfdnaaUnifyMeetsPt7
import Derived.Test.YtafpbdmggnfdnaaUnifyMeetsPt8
import Derived.Test.YtafpbdmggnfdnaaUnifyMeetsPt9
import Derived.Test.YtafpbdmggnfdnaaUnifyMeetsPt10
import Derived.Test.YtafpbdmggnfdnaaUnifyMeetsPt11
import Derived.Test.YtafpbdmggnfdnaaUnifyMeetsPt12
import Derived.Test.YtafpbdmggnfdnaaUnifyMeetsPt13
import Derived.Test.YtafpbdmggnfdnaaUnifyMeetsPt14
import Derived.Test.YtafpbdmggnfdnaaUnifyMeetsPt15
/- Two stores of the program's side by side. -/
namespace Go.Proofs.Ytafpbdmggnfdnaa
open Go.RowKit
set_option linter.unusedVariables false

/-- K: blocks that are neither's. -/
structure Duo (K : Nat → Prop) (w0 : World) (g : Nat) (N : List Nd) (c : Nat → Nat) (g' : Nat) (N' : List Nd) (c' : Nat → Nat) (w : World) : Prop where
  out : ∃ M M', Live M g N c w ∧ Live M' g' N' c' w ∧ (∀ b, M b → ¬ M' b) ∧ ∀ b, M b ∨ M' b → w0.heap.size ≤ b ∧ ¬ K b
  below : Below w0.heap.size w0 w
  kept : ∀ b, K b → b < w.heap.size
section
variable {K F : Nat → Prop} {w0 w w' : World} {g g' : Nat} {N N' : List Nd} {c c' : Nat → Nat}
theorem Duo.swap (h : Duo K w0 g N c g' N' c' w) : Duo K w0 g' N' c' g N c w := by
  obtain ⟨⟨M, M', h1, h2, h3, h4⟩, h5, h6⟩ := h
  exact ⟨⟨M', M, h2, h1, fun b hb hm => h3 b hm hb, fun b hb => h4 b hb.symm⟩, h5, h6⟩
theorem Duo.only (h : Duo K w0 g N c g' N' c' w) (ho : Only F w w') (hF : ∀ b, F b → K b ∧ w0.heap.size ≤ b) : Duo K w0 g N c g' N' c' w' := by
  obtain ⟨⟨M, M', h1, h2, h3, h4⟩, h5, h6⟩ := h
  exact ⟨⟨M, M', h1.keep ho (fun b hb hm => (h4 b (.inl hm)).2 (hF b hb).1), h2.keep ho (fun b hb hm => (h4 b (.inr hm)).2 (hF b hb).1), h3, h4⟩, Only.below_trans h5 ho (fun b _ hb => (hF b hb).2) h5.size, fun b hb => Nat.lt_of_lt_of_le (h6 b hb) ho.size⟩
theorem Duo.later (h : Duo K w0 g N c g' N' c' w) (hb : Below w.heap.size w w') : Duo K w0 g N c g' N' c' w' := h.only (Only.of_below hb (fun _ => False)) (fun _ hf => hf.elim)
theorem Duo.drewN (h : Duo K w0 g N c g' N' c' w) (n : Nat) : Duo K w0 g N c g' N' c' (w.drewN n) := h.only (F := fun _ => False) ((Only.refl _ w).drewN n) (fun _ hf => hf.elim)
theorem Duo.more (h : Duo K w0 g N c g' N' c' w) (hb : Below w.heap.size w w') : Duo (Go.Proofs.Ytafpbdmggnfdnaa.more K w w') w0 g N c g' N' c' w' := by
  have h' := h.later hb
  obtain ⟨⟨M, M', h1, h2, h3, h4⟩, h5, h6⟩ := h
  refine ⟨⟨M, M', h1.below hb, h2.below hb, h3, fun b hM => ⟨(h4 b hM).1, ?_⟩⟩, h'.below, fun b hK => ?_⟩
  · rintro (hk | hk)
    · exact (h4 b hM).2 hk
    · rcases hM with hm | hm
      · have := h1.lt b hm; omega
      · have := h2.lt b hm; omega
  · rcases hK with hk | hk
    · exact h'.kept b hk
    · exact hk.2
theorem Duo.facts (h : Duo K w0 g N c g' N' c' w) : Wf N ∧ Closed N c ∧ Acyc N c ∧ (∀ i, i < N.length → c i < N.length ∧ c (c i) = c i) ∧ (∃ F : Nat → Nat, ∀ i, i < N.length → Form N c (c i) (F (c i))) ∧ ∀ is, (∀ i ∈ is, i < N.length) → ∃ T, TreeOf N c is T := by
  obtain ⟨⟨M, M', h1, h2, h3, h4⟩, h5, h6⟩ := h
  refine ⟨h1.wf, h1.closed, h1.acyc, h1.roots, ?_, fun is hi => h1.tree is hi⟩
  obtain ⟨⟨L, S, d, k1, k2, rfl, k4, k5, k6⟩, k7⟩ := h1
  exact ⟨par S.forms, k4.forms⟩
theorem duo_step {M M' : Nat → Prop} {c1 : Nat → Nat} (h1 : Live M g N c w) (h2 : Live M' g' N' c' w) (h3 : ∀ b, M b → ¬ M' b) (h4 : ∀ b, M b ∨ M' b → w0.heap.size ≤ b ∧ ¬ K b) (h5 : Below w0.heap.size w0 w) (h6 : ∀ b, K b → b < w.heap.size)
    (k1 : Live M g N c1 w') (k2 : Only M w w') : Duo K w0 g N c1 g' N' c' w' ∧ Keeps K w w' := by
  have hz := k2.size
  exact ⟨⟨⟨M, M', k1, h2.keep k2 h3, h3, h4⟩, Only.below_trans h5 k2 (fun b _ hb => (h4 b (.inl hb)).1) h5.size, fun b hb => Nat.lt_of_lt_of_le (h6 b hb) hz⟩, hz, fun b hb => k2.block b (h6 b hb) (fun hm => (h4 b (.inl hm)).2 hb)⟩
theorem duo_unify (h : Duo K w0 g N c g' N' c' w) (a b : Int) : Calls Try.prog 23 #[.pointer (some ⟨g, 0, none⟩), .int .i64 a, .int .i64 b] w fun e w' => ∃ err c1, e = .returned (.int .i64 err) ∧ UniSaid N c a b err c1 ∧ Duo K w0 g N c1 g' N' c' w' ∧ Keeps K w w' := by
  obtain ⟨⟨M, M', h1, h2, h3, h4⟩, h5, h6⟩ := h
  refine (live_unify h1 a b).mono ?_
  rintro e w' ⟨err, c1, rfl, k0, k1, k2⟩
  exact ⟨err, c1, rfl, k0, duo_step h1 h2 h3 h4 h5 h6 k1 k2⟩
theorem duo_unify2 (h : Duo K w0 g N c g' N' c' w) (a b : Int) : Calls Try.prog 23 #[.pointer (some ⟨g', 0, none⟩), .int .i64 a, .int .i64 b] w fun e w' => ∃ err c1, e = .returned (.int .i64 err) ∧ UniSaid N' c' a b err c1 ∧ Duo K w0 g N c g' N' c1 w' ∧ Keeps K w w' := by
  refine (duo_unify h.swap a b).mono ?_
  rintro e w' ⟨err, c1, rfl, k0, k1, k2⟩
  exact ⟨err, c1, rfl, k0, k1.swap, k2⟩
theorem duo_alike (h : Duo K w0 g N c g' N' c' w) (a b : Nat) (ha : a < N.length) (hb : b < N.length) (r : Bool) (hr : r = true ↔ AlikeIn N c a b) : Calls Try.prog 19 #[.pointer (some ⟨g, 0, none⟩), .int .i64 (a : Int), .int .i64 (b : Int)] w fun e w' => e = .returned (.bool r) ∧ Duo K w0 g N c g' N' c' w' ∧ Keeps K w w' := by
  obtain ⟨⟨M, M', h1, h2, h3, h4⟩, h5, h6⟩ := h
  refine (live_alike h1 a b ha hb).mono ?_
  rintro e w' ⟨⟨r', rfl, hr'⟩, k1, k2⟩
  have : r' = r := by cases r <;> cases r' <;> simp_all
  subst this
  exact ⟨rfl, duo_step h1 h2 h3 h4 h5 h6 k1 k2⟩
theorem duo_size (h : Duo K w0 g N c g' N' c' w) (i : Nat) (hi : i < N.length) (T : Fo) (hT : TreeOf N c [i] T) : Calls Try.prog 13 #[.pointer (some ⟨g, 0, none⟩), .int .i64 (i : Int)] w fun e w' => e = .returned (.int .i64 (capped T.cnt : Int)) ∧ Below w.heap.size w w' := by
  obtain ⟨⟨M, M', h1, h2, h3, h4⟩, h5, h6⟩ := h
  exact live_size h1 i _ (.inr ⟨by simp [allIn]; omega, T, by simpa using hT, rfl⟩)
theorem duo_types (h : Duo K w0 g N c g' N' c' w) (A : Option Addr) (cap : Nat) (ns : List Nat) (hA : Nats w A ns) (hns : ∀ x ∈ ns, x < N.length) (hlen : ns.length ≤ 1000000) (T : Fo) (hT : TreeOf N c ns T) (hsz : ∀ x ∈ ns, ∀ B, TreeOf N c [x] B → B.cnt ≤ 300) :
    Calls Try.prog 15 #[.pointer (some ⟨g, 0, none⟩), .slice A ns.length cap] w (TypesPost w ns.length (ren T)) := by
  obtain ⟨⟨M, M', h1, h2, h3, h4⟩, h5, h6⟩ := h
  exact live_types h1 A cap ns hA hns hlen T hT hsz
theorem duo_of {K2 : Nat → Prop} {w2 w3 w4 w5 : World} {v v2 : Value} {cr cr' d : Nat → Nat} (h1 : Two K w2 g N c v N cr w3) (hb : Below w3.heap.size w3 w4) (h2 : Two K2 w4 g' N' d v2 N' cr' w5) : Duo K w2 g N c g' N' d w5 := by
  obtain ⟨⟨M, M', k1, k2, k3, k4⟩, k5, k6⟩ := h1
  obtain ⟨⟨L, L', l1, l2, l3, l4⟩, l5, l6⟩ := h2
  have hbb : Below w3.heap.size w3 w5 := hb.trans (l5.mono hb.size)
  have hz := hb.size
  have hz5 := l5.size
  have hz2 := k5.size
  refine ⟨⟨M, L, k1.below hbb, l1, fun b hm hl => ?_, fun b hb' => ?_⟩, k5.trans (hbb.mono hz2), fun b hK => ?_⟩
  · have := k1.lt b hm
    have := (l4 b (.inl hl)).1
    omega
  · rcases hb' with hm | hl
    · exact k4 b (.inl hm)
    · have := (l4 b (.inl hl)).1
      exact ⟨by omega, fun hK => by have := k6 b hK; omega⟩
  · have := k6 b hK; omega
end
/-- Types lie as they lay where all blocks of them are kept. -/
theorem FoAt.keeps {w w' : World} {K P : Nat → Prop} {A : Option Addr} {F : Fo} (h : FoAt w P A F) (hk : Keeps K w w') (hP : ∀ b, P b → K b) : FoAt w' P A F := h.keep (fun _ hb => hb) (fun p hp => World.cell?_of_block (hk.2 p.block (hP _ hp)))
theorem FoAt.below' {w w' : World} {P : Nat → Prop} {A : Option Addr} {F : Fo} (h : FoAt w P A F) (hP : ∀ b, P b → b < w.heap.size) (hb : Below w.heap.size w w') : FoAt w' P A F := h.keep (fun _ hb => hb) (fun p hp => hb.cell (hP _ hp))
end Go.Proofs.Ytafpbdmggnfdnaa

/- The walk of the law UnifyMeets. -/
namespace Go.Proofs.Ytafpbdmggnfdnaa
open Go.RowKit
set_option linter.unusedVariables false

theorem eq_bool (w : World) (a b : Bool) : (binOp .eql 4 (.bool a) (.bool b)).run Try.prog w = .ok (.bool (a == b)) w := by cases a <;> cases b <;> kernel_rfl
set_option maxRecDepth 100000 in
set_option maxHeartbeats 4000000 in
theorem unifyMeets_walk (A : Option Addr) (cap : Nat) (ops0 : List OpV) (a b : Int) (w : World) (hA : OpsAt w A ops0) (hl : OpsLen ops0) (hcap : ops0.length ≤ cap) :
    Calls Try.prog 5 #[.slice A ops0.length cap, .int .i64 a, .int .i64 b] w fun e w' => e = .returned (.bool true) ∧ Below w.heap.size w w' := by
  obtain ⟨ops, hops⟩ : ∃ ops, ops0.take 60 = ops := ⟨_, rfl⟩
  have h60 : ops.length ≤ 60 := by rw [← hops, List.length_take]; omega
  have hA' : OpsAt w A ops := by rw [← hops]; exact hA.take 60
  have hl' : OpsLen ops := by
    rw [← hops]
    exact ⟨by rw [List.length_take]; have := hl.1; omega, fun o ho => hl.2 o (List.mem_of_mem_take ho)⟩
  have HC := hide (fun W (hW : Below w.heap.size w W) => cut_any W A cap ops0 (hA.below hW) hl hcap)
  rw [hops] at HC
  have HG := hide (fun W (hW : Below w.heap.size w W) => heavy_any W A cap ops (hA'.below hW) hl' h60)
  have HA := hide hA'; have Hl := hide hl'
  clear hops hA hl hA' hl'
  go_enter Try.func5, Try.ntmps5
  go_wp2_with fail
  refine (alive_any _).mono ?_
  rintro e w1 ⟨rfl, hb1⟩
  have Hb1 := hide hb1
  clear hb1
  go_wp2_with fail
  refine (HC.out w1 Hb1.out).mono ?_
  rintro e w2 ⟨rfl, rfl⟩
  go_wp2_with fail
  refine (HG.out w1 Hb1.out).mono ?_
  rintro e w2 ⟨rfl, hb2⟩
  have Hb2 := hide (Hb1.out.trans (hb2.mono Hb1.out.size))
  clear hb2
  cases hh : heavyB ops
  · have Hfit : Hid (OpsFit ops) := hide (weight_fit h60 (by unfold heavyB at hh; simpa using hh))
    clear hh
    go_wp2_with fail
    refine (runs_any w2 A cap ops (HA.out.below Hb2.out) Hfit.out).mono ?_
    rintro e w3 ⟨g, v, B, mcap, N, made, d, d', rfl, hr, hr', hT, hM⟩
    obtain ⟨Av, vcap, hv⟩ := hT.facts.2.2.2.2
    subst hv
    have Hr := hide hr; have HT := hide hT; have HM := hide hM
    have hml : made.length ≤ 60 := by have := hr.facts.2.2.2; simp at this; omega
    have hNl : N.length ≤ 60 := by have := hr.facts.2.2.1; simp at this; omega
    have Hb3 := hide (Hb2.out.trans (hT.below.mono Hb2.out.size))
    clear hr hr' hT hM
    go_wp2_with fail
    have hb34 : Below w3.heap.size w3 (w3.alloc (.cells #[.slice Av N.length vcap] 29)) := (Below.refl _ _).alloc (Nat.le_refl _) _
    obtain ⟨w4, hw4⟩ : ∃ w4, w3.alloc (.cells #[.slice Av N.length vcap] 29) = w4 := ⟨_, rfl⟩
    rw [hw4] at hb34 ⊢
    have Hb4 := hide (Hb3.out.trans (hb34.mono Hb3.out.size))
    refine (runs_any w4 A cap ops (HA.out.below Hb4.out) Hfit.out).mono ?_
    rintro e w5 ⟨g', v', B', mcap', N', made', f, f', rfl, hr, hr', hT, hM⟩
    obtain ⟨rfl, rfl, hsame⟩ := Hr.out.same hr
    obtain ⟨Av', vcap', hv⟩ := hT.facts.2.2.2.2
    subst hv
    have HD := hide (duo_of HT.out hb34 hT)
    have HM5 := hide (Ints.below HM.out (hb34.trans (hT.below.mono hb34.size)))
    have Hsame := hide hsame
    have Hb5 := hide (Hb4.out.trans (hT.below.mono Hb4.out.size))
    clear hw4 hb34 hr hr' hT hM hsame HT HM
    by_cases hin : (0 ≤ a ∧ a < (made.length : Int)) ∧ (0 ≤ b ∧ b < (made.length : Int))
    · obtain ⟨⟨ha0, ha1⟩, ⟨hb0, hb1⟩⟩ := hin
      obtain ⟨a, rfl⟩ : ∃ n : Nat, a = n := ⟨a.toNat, by omega⟩
      obtain ⟨b, rfl⟩ : ∃ n : Nat, b = n := ⟨b.toNat, by omega⟩
      have ka : a < made.length := by omega
      have kb : b < made.length := by omega
      obtain ⟨bB, oB, hB, hBl, c0⟩ := HM5.out.at_ a (by simpa [cast] using ka)
      obtain ⟨bB', oB', e', -, c1⟩ := HM5.out.at_ b (by simpa [cast] using kb)
      obtain ⟨rfl, rfl⟩ : bB = bB' ∧ oB = oB' := by rw [hB] at e'; injection e' with e'; injection e' with e1 e2; exact ⟨e1, e2⟩
      simp only [cast, List.getElem_map] at c0 c1
      obtain ⟨x, hx⟩ : ∃ x, made[a] = x := ⟨_, rfl⟩
      obtain ⟨y, hy⟩ : ∃ x, made[b] = x := ⟨_, rfl⟩
      have hxn : x < N.length := Hr.out.facts.1 x (by rw [← hx]; exact List.getElem_mem _)
      have hyn : y < N.length := Hr.out.facts.1 y (by rw [← hy]; exact List.getElem_mem _)
      rw [hx] at c0; rw [hy] at c1
      subst hB
      have l5 : bB < w5.heap.size := hBl
      clear hx hy e' hcap
      go_wp2_with fail
      have hb56 : Below w5.heap.size w5 (w5.alloc (.cells #[.slice Av' N.length vcap'] 29)) := (Below.refl _ _).alloc (Nat.le_refl _) _
      obtain ⟨w6, hw6⟩ : ∃ w6, w5.alloc (.cells #[.slice Av' N.length vcap'] 29) = w6 := ⟨_, rfl⟩
      rw [hw6] at hb56 ⊢
      have HD6 := hide (HD.out.later hb56)
      clear hw6 hb56 c0 c1
      refine (duo_unify HD6.out (x : Int) (y : Int)).mono ?_
      rintro e w7 ⟨ev, d1, rfl, hu, hD, hk⟩
      have Hu := hide hu; have HD7 := hide hD
      clear hu hD hk
      go_wp2_with fail
      refine (duo_unify2 HD7.out (y : Int) (x : Int)).mono ?_
      rintro e w8 ⟨ev', f1, rfl, hu', hD, hk⟩
      obtain ⟨rfl, hs1⟩ := uni_same Hsame.out (.inr ⟨rfl, rfl⟩) Hu.out hu' HD7.out.facts.2.2.1 hD.swap.facts.2.2.1
      have HD8 := hide hD; have Hs1 := hide hs1
      obtain ⟨X, hX⟩ := hD.facts.2.2.2.2.2 [x] (by simpa using hxn)
      obtain ⟨Y, hY⟩ := hD.facts.2.2.2.2.2 [y] (by simpa using hyn)
      obtain ⟨X', hX'⟩ := hD.swap.facts.2.2.2.2.2 [x] (by simpa using hxn)
      have hXX := (tree_same hD.facts.1 hD.facts.2.1 hs1 hD.facts.2.2.2.1 (by simpa using hxn) hX hX').1
      have HSx := hide (fun W (hW : Below w8.heap.size w8 W) => duo_size (hD.later hW) x hxn X hX)
      have HSy := hide (fun W (hW : Below w8.heap.size w8 W) => duo_size (hD.later hW) y hyn Y hY)
      have HSx' := hide (fun W (hW : Below w8.heap.size w8 W) => duo_size (hD.swap.later hW) x hxn X' hX')
      rw [hXX] at HSx'
      have hev : ev = 0 ∨ ev = 131 ∨ ev = 130 := by
        by_cases h0 : ev = 0
        · exact .inl h0
        · obtain ⟨Fm, hFm⟩ := HD6.out.facts.2.2.2.2.1
          exact .inr (uni_refused hxn hyn HD6.out.facts.1 HD6.out.facts.2.1 HD6.out.facts.2.2.2.1 hFm HD6.out.facts.2.2.1 Hu.out h0).2.2
      have kk0 : (ev != ev) = false := by simp
      have HX := hide hX; have HY := hide hY
      obtain ⟨sx, hsx⟩ : ∃ sx, capped X.cnt = sx := ⟨_, rfl⟩
      obtain ⟨sy, hsy⟩ : ∃ sy, capped Y.cnt = sy := ⟨_, rfl⟩
      rw [hsx] at HSx HSx'
      rw [hsy] at HSy
      have hsx1 : sx ≤ 301 := by rw [← hsx]; unfold capped; split <;> omega
      have hsy1 : sy ≤ 301 := by rw [← hsy]; unfold capped; split <;> omega
      have Hsx := hide hsx; have Hsy := hide hsy
      have kk1 : ((sx : Int) != (sx : Int)) = false := by simp
      have kk2 : ((sx : Int) == (sx : Int)) = true := by simp
      clear hu' hD hk hs1 hX hY hX' hXX hsx hsy
      have Hb8 := hide (Hb2.out.trans (HD8.out.below.mono Hb2.out.size))
      rcases hev with rfl | rfl | rfl
      · go_wp2_with fail
        refine (HSx.out w8 (Below.refl _ _)).mono ?_
        rintro e w9 ⟨rfl, hb9⟩
        have H9 := hide hb9
        clear hb9
        go_wp2_with fail
        refine (HSx'.out w9 H9.out).mono ?_
        rintro e w10 ⟨rfl, hb10⟩
        have H10 := hide (H9.out.trans (hb10.mono H9.out.size))
        clear hb10
        go_wp2_with fail
        refine (HSx.out w10 H10.out).mono ?_
        rintro e w11 ⟨rfl, hb11⟩
        have H11 := hide (H10.out.trans (hb11.mono H10.out.size))
        clear hb11
        by_cases hx3 : sx ≤ 300
        · have j1 : decide ((300 : Int) < (sx : Int)) = false := by simp; omega
          go_wp2_with fail
          refine (HSy.out w11 H11.out).mono ?_
          rintro e w12 ⟨rfl, hb12⟩
          have H12 := hide (H11.out.trans (hb12.mono H11.out.size))
          clear hb12
          by_cases hy3 : sy ≤ 300
          · have j2 : decide ((300 : Int) < (sy : Int)) = false := by simp; omega
            obtain ⟨T, hT⟩ := HD8.out.facts.2.2.2.2.2 [x, y] (by simp; omega)
            obtain ⟨T', hT'⟩ := HD8.out.swap.facts.2.2.2.2.2 [x, y] (by simp; omega)
            have hren := (tree_same HD8.out.facts.1 HD8.out.facts.2.1 Hs1.out HD8.out.facts.2.2.2.1 (by simp; omega) hT hT').2
            have hfit : ∀ z ∈ [x, y], ∀ Z, TreeOf N d1 [z] Z → Z.cnt ≤ 300 := by
              intro z hz Z hZ
              have huq := fun (z : Nat) (hz : z < N.length) (U V : Fo) hU hV => TreeOf.unique (T := U) (U := V) HD8.out.facts.1 HD8.out.facts.2.1 HD8.out.facts.2.2.2.1 (is := [z]) (by simpa using hz) hU hV
              have hc1 := Hsx.out; have hc2 := Hsy.out
              unfold capped at hc1 hc2
              simp at hz
              rcases hz with rfl | rfl
              · rw [huq z hxn Z X hZ HX.out]; split at hc1 <;> omega
              · rw [huq z hyn Z Y hZ HY.out]; split at hc2 <;> omega
            have hfit' : ∀ z ∈ [x, y], ∀ Z, TreeOf N f1 [z] Z → Z.cnt ≤ 300 := by
              intro z hz Z hZ
              obtain ⟨U, hU⟩ := HD8.out.facts.2.2.2.2.2 [z] (by simp at hz ⊢; omega)
              have := (tree_same HD8.out.facts.1 HD8.out.facts.2.1 Hs1.out HD8.out.facts.2.2.2.1 (by simp at hz ⊢; omega) hU hZ).1
              rw [this]; exact hfit z hz U hU
            have hcnt : T.cnt ≤ 600 := by
              obtain ⟨F, hF, hS⟩ := hT
              have := hS.cnt_le (fun z hz Z hZ => hfit z hz Z ⟨F, hF, hZ⟩)
              simpa using this
            have HTy := hide (fun W A (hW : Below w8.heap.size w8 W) (hA : Nats W A [x, y]) => duo_types (HD8.out.later hW) A 2 [x, y] hA (by simp; omega) (by simp) T hT hfit)
            have HTy' := hide (fun W A (hW : Below w8.heap.size w8 W) (hA : Nats W A [x, y]) => duo_types (HD8.out.swap.later hW) A 2 [x, y] hA (by simp; omega) (by simp) T' hT' hfit')
            rw [hren] at HTy'
            have Hlen : Hid ((ren T).len = 2) := hide (by obtain ⟨F, hF, hS⟩ := hT; unfold ren; rw [Fo.len_mapv, hS.len]; rfl)
            have Hcnt : Hid ((ren T).cnt ≤ 1000000) := hide (by unfold ren; rw [Fo.cnt_mapv]; omega)
            have HTt := hide hT
            clear hT hT' hren hfit hfit' hcnt
            go_wp2_with fail
            refine (HTy.out _ _ (H12.out.alloc H12.out.size _) (ints_two w12 _ _ _)).mono ?_
            rintro e w13 ⟨P, pc, rfl, hp, hb13⟩
            have H13 := hide ((H12.out.alloc H12.out.size (.cells #[.int .i64 (x : Int), .int .i64 (y : Int)] 3)).trans (hb13.mono (by have := H12.out.size; simp; omega)))
            have Hp := hide hp
            have hz13 : w8.heap.size ≤ w13.heap.size := H13.out.size
            have hPl : Hid (∀ k, (w12.alloc (.cells #[.int .i64 (x : Int), .int .i64 (y : Int)] 3)).heap.size ≤ k ∧ k < w13.heap.size → w8.heap.size ≤ k ∧ k < w13.heap.size) := hide (fun k hk => ⟨by have := H12.out.size; have := hk.1; simp at this; omega, hk.2⟩)
            clear hp hb13
            go_wp2_with fail
            refine (HTy'.out _ _ (H13.out.alloc H13.out.size _) (ints_two w13 _ _ _)).mono ?_
            rintro e w14 ⟨Q, qc, rfl, hq, hb14⟩
            have hb1314 : Below w13.heap.size w13 w14 := ((Below.refl _ _).alloc (Nat.le_refl _) (.cells #[.int .i64 (x : Int), .int .i64 (y : Int)] 3)).trans (hb14.mono (by simp))
            have H14 := hide (H13.out.trans (hb1314.mono hz13))
            have Hp14 := hide ((Hp.out.below' (fun k hk => hk.2) hb1314).keep (P' := fun k => w8.heap.size ≤ k ∧ k < w14.heap.size) (fun k hk => by have := hPl.out k hk; have := hb1314.size; omega) (fun _ _ => rfl))
            have Hq14 := hide (hq.keep (P' := fun k => w8.heap.size ≤ k ∧ k < w14.heap.size) (w' := w14) (fun k hk => ⟨by have := hk.1; simp at this; omega, hk.2⟩) (fun _ _ => rfl))
            have HST := hide (fun c c' => sameTypes_any (fun k => w8.heap.size ≤ k ∧ k < w14.heap.size) (ren T) w14 P Q c c' Hcnt.out (fun k hk => hk.2) Hp14.out Hq14.out)
            rw [Hlen.out] at HST
            clear hq hb14 hb1314
            go_wp2_with fail
            refine (HST.out pc qc).mono ?_
            rintro e w15 ⟨rfl, hb15⟩
            have H15 := hide (H14.out.trans (hb15.mono H14.out.size))
            have Hp15 := hide (Hp14.out.below' (fun k hk => hk.2) hb15)
            have HD15 := hide (HD8.out.more H15.out)
            have hz15 : w14.heap.size ≤ w15.heap.size := hb15.size
            clear hb15 HST
            have hd : d1 x = d1 y := (uni_ok Hu.out hxn hyn).2 rfl
            have Hal : Hid (true = true ↔ AlikeIn N d1 x y) := hide ⟨fun _ => alike_of HD8.out.facts.2.1 hd, fun _ => rfl⟩
            obtain ⟨Z, hZ1, hZ2, hTZ, hZl⟩ := tree_pair hd HTt.out
            obtain ⟨b0, o0, k0, n0, s0, B0, m0, c0, hP0, hb0', p0, p1, p2, p3, hf0⟩ := Hp15.out.nth 0 (by rw [Hlen.out]; omega)
            obtain ⟨b1, o1, k1, n1, s1, B1, m1, c1, hP1, hb1', q0, q1, q2, q3, hf1⟩ := Hp15.out.nth 1 (by rw [Hlen.out]; omega)
            obtain ⟨rfl, rfl⟩ : b0 = b1 ∧ o0 = o1 := by rw [hP0] at hP1; injection hP1 with e1; injection e1 with e1 e2; exact ⟨e1, e2⟩
            have hnn : (ren T).nth 1 = (ren T).nth 0 := by
              unfold ren
              rw [hTZ, Fo.mapv_app]
              have h1 := Fo.nth_app0 (Z.mapv (fun v => (addNew [] (Z.app Z).vars).idxOf v)) (Z.mapv (fun v => (addNew [] (Z.app Z).vars).idxOf v)) (by rw [Fo.len_mapv]; exact hZl)
              rw [h1.1, h1.2, Fo.nth_one _ (by rw [Fo.len_mapv]; exact hZl)]
            rw [hnn] at hf1
            have Hb0' := hide hb0'
            subst hP0
            have lb0 : b0 < w15.heap.size := by omega
            have HST := hide (fun W (hk : Keeps (more (fun b => ∃ x, some (⟨bB, oB, none⟩ : Addr) = some x ∧ x.block = b) w8 w15) w15 W) => sameType_any (fun k => w8.heap.size ≤ k ∧ k < w14.heap.size) _ ((ren T).nth 0) W k0 n0 k1 n1 s0 s1 B0 B1 m0 c0 m1 c1 (Nat.le_refl _) (Nat.le_trans ((ren T).nth_cnt 0) Hcnt.out) (fun k hk' => Nat.lt_of_lt_of_le (by omega) hk.1) (FoCells.keep _ hf0 (fun _ h => h) (fun p hp => World.cell?_of_block (hk.2 p.block (.inr (by omega))))) (FoCells.keep _ hf1 (fun _ h => h) (fun p hp => World.cell?_of_block (hk.2 p.block (.inr (by omega))))))
            simp only [Nat.zero_mul, Nat.add_zero, Nat.one_mul] at p0 p1 p2 p3 q0 q1 q2 q3
            have HKb : Hid ((more (fun b => ∃ x, some (⟨bB, oB, none⟩ : Addr) = some x ∧ x.block = b) w8 w15) b0) := hide (.inr (by omega))
            have HAlk := hide (duo_alike (HD15.out.drewN 1) x y hxn hyn true Hal.out)
            have HUn := hide (fun W (hW : Duo (more (fun b => ∃ x, some (⟨bB, oB, none⟩ : Addr) = some x ∧ x.block = b) w8 w15) w2 g N d1 g' N f1 W) => duo_unify hW (x : Int) (y : Int))
            have Hag := hide (fun err cl => uni_again (err := err) (cl := cl) hxn hyn HD8.out.facts.2.1 HD8.out.facts.2.2.1 hd)
            have qb := eq_bool
            have hr : (fun w' : World => w'.cell? ⟨b0, o0, none⟩ = some (.int .i64 k0) ∧ w'.cell? ⟨b0, o0 + 1, none⟩ = some (.int .i64 n0) ∧ w'.cell? ⟨b0, o0 + 2, none⟩ = some (.string s0) ∧ w'.cell? ⟨b0, o0 + 3, none⟩ = some (.slice B0 m0 c0) ∧ w'.cell? ⟨b0, o0 + 4, none⟩ = some (.int .i64 k1) ∧ w'.cell? ⟨b0, o0 + 4 + 1, none⟩ = some (.int .i64 n1) ∧ w'.cell? ⟨b0, o0 + 4 + 2, none⟩ = some (.string s1) ∧ w'.cell? ⟨b0, o0 + 4 + 3, none⟩ = some (.slice B1 m1 c1)) w15 := ⟨p0, p1, p2, p3, q0, q1, q2, q3⟩
            obtain ⟨r0, r1, r2, r3, r4, r5, r6, r7⟩ := hr
            clear hf0 hf1 hb0' hb1' hZ1 hZ2 hTZ hZl hnn hd p0 p1 p2 p3 q0 q1 q2 q3
            go_upto_region 23 with fail
            go_region_held3 (fun w' => w'.cell? ⟨b0, o0, none⟩ = some (.int .i64 k0) ∧ w'.cell? ⟨b0, o0 + 1, none⟩ = some (.int .i64 n0) ∧ w'.cell? ⟨b0, o0 + 2, none⟩ = some (.string s0) ∧ w'.cell? ⟨b0, o0 + 3, none⟩ = some (.slice B0 m0 c0) ∧ w'.cell? ⟨b0, o0 + 4, none⟩ = some (.int .i64 k1) ∧ w'.cell? ⟨b0, o0 + 4 + 1, none⟩ = some (.int .i64 n1) ∧ w'.cell? ⟨b0, o0 + 4 + 2, none⟩ = some (.string s1) ∧ w'.cell? ⟨b0, o0 + 4 + 3, none⟩ = some (.slice B1 m1 c1)) (go_keep)
              (first | (go_at_call 19; refine HAlk.out.mono ?_; rintro e w16 ⟨rfl, hD16, hk16⟩; have t0 := (World.cell?_of_block (a := ⟨b0, o0, none⟩) (hk16.2 b0 HKb.out)).trans r0; have t1 := (World.cell?_of_block (a := ⟨b0, o0 + 1, none⟩) (hk16.2 b0 HKb.out)).trans r1; have t2 := (World.cell?_of_block (a := ⟨b0, o0 + 2, none⟩) (hk16.2 b0 HKb.out)).trans r2; have t3 := (World.cell?_of_block (a := ⟨b0, o0 + 3, none⟩) (hk16.2 b0 HKb.out)).trans r3; have t4 := (World.cell?_of_block (a := ⟨b0, o0 + 4, none⟩) (hk16.2 b0 HKb.out)).trans r4; have t5 := (World.cell?_of_block (a := ⟨b0, o0 + 4 + 1, none⟩) (hk16.2 b0 HKb.out)).trans r5; have t6 := (World.cell?_of_block (a := ⟨b0, o0 + 4 + 2, none⟩) (hk16.2 b0 HKb.out)).trans r6; have t7 := (World.cell?_of_block (a := ⟨b0, o0 + 4 + 3, none⟩) (hk16.2 b0 HKb.out)).trans r7; have lb16 : b0 < w16.heap.size := Nat.lt_of_lt_of_le lb0 hk16.1; have HD16 := hide hD16; have Hk16 := hide hk16; clear hD16 hk16) | (go_at_call 24; refine (HST.out w16 ⟨Hk16.out.1, Hk16.out.2⟩).mono ?_; rintro e w17 ⟨rfl, hb17⟩; have u0 := (hb17.cell (p := ⟨b0, o0, none⟩) lb16).trans t0; have u1 := (hb17.cell (p := ⟨b0, o0 + 1, none⟩) lb16).trans t1; have u2 := (hb17.cell (p := ⟨b0, o0 + 2, none⟩) lb16).trans t2; have u3 := (hb17.cell (p := ⟨b0, o0 + 3, none⟩) lb16).trans t3; have u4 := (hb17.cell (p := ⟨b0, o0 + 4, none⟩) lb16).trans t4; have u5 := (hb17.cell (p := ⟨b0, o0 + 4 + 1, none⟩) lb16).trans t5; have u6 := (hb17.cell (p := ⟨b0, o0 + 4 + 2, none⟩) lb16).trans t6; have u7 := (hb17.cell (p := ⟨b0, o0 + 4 + 3, none⟩) lb16).trans t7; have HD17 := hide (HD16.out.later hb17); clear hb17) | (go_at_call 23; refine (HUn.out w17 HD17.out).mono ?_; rintro e w18 ⟨er, cl, rfl, hu18, hD18, hk18⟩; have her := Hag.out _ _ hu18; subst her; have z0 := (World.cell?_of_block (a := ⟨b0, o0, none⟩) (hk18.2 b0 HKb.out)).trans u0; have z1 := (World.cell?_of_block (a := ⟨b0, o0 + 1, none⟩) (hk18.2 b0 HKb.out)).trans u1; have z2 := (World.cell?_of_block (a := ⟨b0, o0 + 2, none⟩) (hk18.2 b0 HKb.out)).trans u2; have z3 := (World.cell?_of_block (a := ⟨b0, o0 + 3, none⟩) (hk18.2 b0 HKb.out)).trans u3; have z4 := (World.cell?_of_block (a := ⟨b0, o0 + 4, none⟩) (hk18.2 b0 HKb.out)).trans u4; have z5 := (World.cell?_of_block (a := ⟨b0, o0 + 4 + 1, none⟩) (hk18.2 b0 HKb.out)).trans u5; have z6 := (World.cell?_of_block (a := ⟨b0, o0 + 4 + 2, none⟩) (hk18.2 b0 HKb.out)).trans u6; have z7 := (World.cell?_of_block (a := ⟨b0, o0 + 4 + 3, none⟩) (hk18.2 b0 HKb.out)).trans u7; have HD18 := hide hD18; clear hD18 hk18 hu18))
            go_wp2
            go_ret
            exact ⟨rfl, Hb2.out.trans (HD18.out.below.mono Hb2.out.size)⟩
          · have j2 : decide ((300 : Int) < (sy : Int)) = true := by simp; omega
            go_wp2_with fail
            refine (HSx.out _ H12.out).mono ?_
            rintro e w13 ⟨rfl, hb13⟩
            have H13 := hide (H12.out.trans (hb13.mono H12.out.size))
            clear hb13
            go_wp2_with fail
            refine (HSx'.out w13 H13.out).mono ?_
            rintro e w14 ⟨rfl, hb14⟩
            go_wp2
            go_ret
            exact ⟨rfl, Hb8.out.trans ((H13.out.trans (hb14.mono H13.out.size)).mono Hb8.out.size)⟩
        · have j1 : decide ((300 : Int) < (sx : Int)) = true := by simp; omega
          go_wp2_with fail
          refine (HSx.out _ H11.out).mono ?_
          rintro e w13 ⟨rfl, hb13⟩
          have H13 := hide (H11.out.trans (hb13.mono H11.out.size))
          clear hb13
          go_wp2_with fail
          refine (HSx'.out w13 H13.out).mono ?_
          rintro e w14 ⟨rfl, hb14⟩
          go_wp2
          go_ret
          exact ⟨rfl, Hb8.out.trans ((H13.out.trans (hb14.mono H13.out.size)).mono Hb8.out.size)⟩
      · go_wp2_with fail
        refine (HSx.out w8 (Below.refl _ _)).mono ?_
        rintro e w9 ⟨rfl, hb9⟩
        have H9 := hide hb9
        clear hb9
        go_wp2_with fail
        refine (HSx'.out w9 H9.out).mono ?_
        rintro e w10 ⟨rfl, hb10⟩
        have H10 := hide (H9.out.trans (hb10.mono H9.out.size))
        clear hb10
        go_wp2_with fail
        refine (HSx.out w10 H10.out).mono ?_
        rintro e w11 ⟨rfl, hb11⟩
        have H11 := hide (H10.out.trans (hb11.mono H10.out.size))
        clear hb11
        by_cases hx3 : sx ≤ 300
        · have j1 : decide ((300 : Int) < (sx : Int)) = false := by simp; omega
          go_wp2_with fail
          refine (HSy.out w11 H11.out).mono ?_
          rintro e w12 ⟨rfl, hb12⟩
          have H12 := hide (H11.out.trans (hb12.mono H11.out.size))
          clear hb12
          by_cases hy3 : sy ≤ 300
          · have j2 : decide ((300 : Int) < (sy : Int)) = false := by simp; omega
            obtain ⟨T, hT⟩ := HD8.out.facts.2.2.2.2.2 [x, y] (by simp; omega)
            obtain ⟨T', hT'⟩ := HD8.out.swap.facts.2.2.2.2.2 [x, y] (by simp; omega)
            have hren := (tree_same HD8.out.facts.1 HD8.out.facts.2.1 Hs1.out HD8.out.facts.2.2.2.1 (by simp; omega) hT hT').2
            have hfit : ∀ z ∈ [x, y], ∀ Z, TreeOf N d1 [z] Z → Z.cnt ≤ 300 := by
              intro z hz Z hZ
              have huq := fun (z : Nat) (hz : z < N.length) (U V : Fo) hU hV => TreeOf.unique (T := U) (U := V) HD8.out.facts.1 HD8.out.facts.2.1 HD8.out.facts.2.2.2.1 (is := [z]) (by simpa using hz) hU hV
              have hc1 := Hsx.out; have hc2 := Hsy.out
              unfold capped at hc1 hc2
              simp at hz
              rcases hz with rfl | rfl
              · rw [huq z hxn Z X hZ HX.out]; split at hc1 <;> omega
              · rw [huq z hyn Z Y hZ HY.out]; split at hc2 <;> omega
            have hfit' : ∀ z ∈ [x, y], ∀ Z, TreeOf N f1 [z] Z → Z.cnt ≤ 300 := by
              intro z hz Z hZ
              obtain ⟨U, hU⟩ := HD8.out.facts.2.2.2.2.2 [z] (by simp at hz ⊢; omega)
              have := (tree_same HD8.out.facts.1 HD8.out.facts.2.1 Hs1.out HD8.out.facts.2.2.2.1 (by simp at hz ⊢; omega) hU hZ).1
              rw [this]; exact hfit z hz U hU
            have hcnt : T.cnt ≤ 600 := by
              obtain ⟨F, hF, hS⟩ := hT
              have := hS.cnt_le (fun z hz Z hZ => hfit z hz Z ⟨F, hF, hZ⟩)
              simpa using this
            have HTy := hide (fun W A (hW : Below w8.heap.size w8 W) (hA : Nats W A [x, y]) => duo_types (HD8.out.later hW) A 2 [x, y] hA (by simp; omega) (by simp) T hT hfit)
            have HTy' := hide (fun W A (hW : Below w8.heap.size w8 W) (hA : Nats W A [x, y]) => duo_types (HD8.out.swap.later hW) A 2 [x, y] hA (by simp; omega) (by simp) T' hT' hfit')
            rw [hren] at HTy'
            have Hlen : Hid ((ren T).len = 2) := hide (by obtain ⟨F, hF, hS⟩ := hT; unfold ren; rw [Fo.len_mapv, hS.len]; rfl)
            have Hcnt : Hid ((ren T).cnt ≤ 1000000) := hide (by unfold ren; rw [Fo.cnt_mapv]; omega)
            have HTt := hide hT
            clear hT hT' hren hfit hfit' hcnt
            go_wp2_with fail
            refine (HTy.out _ _ (H12.out.alloc H12.out.size _) (ints_two w12 _ _ _)).mono ?_
            rintro e w13 ⟨P, pc, rfl, hp, hb13⟩
            have H13 := hide ((H12.out.alloc H12.out.size (.cells #[.int .i64 (x : Int), .int .i64 (y : Int)] 3)).trans (hb13.mono (by have := H12.out.size; simp; omega)))
            have Hp := hide hp
            have hz13 : w8.heap.size ≤ w13.heap.size := H13.out.size
            have hPl : Hid (∀ k, (w12.alloc (.cells #[.int .i64 (x : Int), .int .i64 (y : Int)] 3)).heap.size ≤ k ∧ k < w13.heap.size → w8.heap.size ≤ k ∧ k < w13.heap.size) := hide (fun k hk => ⟨by have := H12.out.size; have := hk.1; simp at this; omega, hk.2⟩)
            clear hp hb13
            go_wp2_with fail
            refine (HTy'.out _ _ (H13.out.alloc H13.out.size _) (ints_two w13 _ _ _)).mono ?_
            rintro e w14 ⟨Q, qc, rfl, hq, hb14⟩
            have hb1314 : Below w13.heap.size w13 w14 := ((Below.refl _ _).alloc (Nat.le_refl _) (.cells #[.int .i64 (x : Int), .int .i64 (y : Int)] 3)).trans (hb14.mono (by simp))
            have H14 := hide (H13.out.trans (hb1314.mono hz13))
            have Hp14 := hide ((Hp.out.below' (fun k hk => hk.2) hb1314).keep (P' := fun k => w8.heap.size ≤ k ∧ k < w14.heap.size) (fun k hk => by have := hPl.out k hk; have := hb1314.size; omega) (fun _ _ => rfl))
            have Hq14 := hide (hq.keep (P' := fun k => w8.heap.size ≤ k ∧ k < w14.heap.size) (w' := w14) (fun k hk => ⟨by have := hk.1; simp at this; omega, hk.2⟩) (fun _ _ => rfl))
            have HST := hide (fun c c' => sameTypes_any (fun k => w8.heap.size ≤ k ∧ k < w14.heap.size) (ren T) w14 P Q c c' Hcnt.out (fun k hk => hk.2) Hp14.out Hq14.out)
            rw [Hlen.out] at HST
            clear hq hb14 hb1314
            go_wp2_with fail
            refine (HST.out pc qc).mono ?_
            rintro e w15 ⟨rfl, hb15⟩
            have H15 := hide (H14.out.trans (hb15.mono H14.out.size))
            have Hp15 := hide (Hp14.out.below' (fun k hk => hk.2) hb15)
            have HD15 := hide (HD8.out.more H15.out)
            have hz15 : w14.heap.size ≤ w15.heap.size := hb15.size
            clear hb15 HST
            obtain ⟨Fm, hFm⟩ := HD6.out.facts.2.2.2.2.1
            obtain ⟨hdd, hnal, -⟩ := uni_refused hxn hyn HD6.out.facts.1 HD6.out.facts.2.1 HD6.out.facts.2.2.2.1 hFm HD6.out.facts.2.2.1 Hu.out (by decide)
            have Hal : Hid (false = true ↔ AlikeIn N d1 x y) := hide ⟨(fun h => by cases h), (fun h => absurd (by rw [hdd] at h; exact h) hnal)⟩
            clear hFm hdd hnal
            have HAlk := hide (duo_alike (HD15.out.drewN 1) x y hxn hyn false Hal.out)
            have qb := eq_bool
            go_upto_region 23 with fail
            refine wp_region_held_drew (S := fun _ => True) (by kernel_rfl) trivial (fun hHeld => ?_)
            refine wpAnyH_take (i := 0) (oi := _) (v := ?_) rfl (by kernel_rfl) (by kernel_rfl) (by kernel_rfl) (fun _ _ _ h => h) (Or.inl ⟨by rfl, ?_⟩) trivial ?_
            rotate_left
            · intro w' hSw
              go_simp
              try (with_reducible rfl)
            try simp only [List.getElem_toArray, List.getElem_cons_zero, List.getElem_cons_succ, Act.put, List.setIfInBounds_toArray, List.set_cons_zero, List.set_cons_succ]
            refine wpAnyH_take (i := 1) (oi := _) (v := ?_) rfl (by kernel_rfl) (by kernel_rfl) (by kernel_rfl) (fun _ _ _ h => h) (Or.inl ⟨by rfl, ?_⟩) trivial ?_
            rotate_left
            · intro w' hSw
              go_simp
              try (with_reducible rfl)
            try simp only [List.getElem_toArray, List.getElem_cons_zero, List.getElem_cons_succ, Act.put, List.setIfInBounds_toArray, List.set_cons_zero, List.set_cons_succ]
            refine wpAnyH_take (i := 2) (oi := _) (v := ?_) rfl (by kernel_rfl) (by kernel_rfl) (by kernel_rfl) (fun _ _ _ h => h) (Or.inl ⟨by rfl, ?_⟩) trivial ?_
            rotate_left
            · intro w' hSw
              go_simp
              try (with_reducible rfl)
            try simp only [List.getElem_toArray, List.getElem_cons_zero, List.getElem_cons_succ, Act.put, List.setIfInBounds_toArray, List.set_cons_zero, List.set_cons_succ]
            refine wpAnyH_take (i := 3) (oi := _) (v := ?_) rfl (by kernel_rfl) (by kernel_rfl) (by kernel_rfl) (fun _ _ _ h => h) (Or.inl ⟨by rfl, ?_⟩) trivial ?_
            rotate_left
            · intro w' hSw
              go_simp
              try (with_reducible rfl)
            try simp only [List.getElem_toArray, List.getElem_cons_zero, List.getElem_cons_succ, Act.put, List.setIfInBounds_toArray, List.set_cons_zero, List.set_cons_succ]
            refine wpAnyH_take (i := 4) (oi := _) (v := ?_) rfl (by kernel_rfl) (by kernel_rfl) (by kernel_rfl) (fun _ _ _ h => h) (Or.inl ⟨by rfl, ?_⟩) trivial ?_
            rotate_left
            · intro w' hSw
              go_simp
              try (with_reducible rfl)
            try simp only [List.getElem_toArray, List.getElem_cons_zero, List.getElem_cons_succ, Act.put, List.setIfInBounds_toArray, List.set_cons_zero, List.set_cons_succ]
            refine wpAnyH_ready (rs := [5]) (by kernel_rfl) (by simp) ?_
            refine AllReadyH.cons (o := _) rfl (fun K hK => ?_) AllReadyH.nil
            go_simp
            refine HAlk.out.mono ?_
            rintro e w16 ⟨rfl, hD16, hk16⟩
            have HD16 := hide hD16
            clear hD16 hk16
            go_wp2_with fail
            refine hK.out _ _ trivial (fun hHeld => ?_)
            clear hK K
            try simp only [List.getElem_toArray, List.getElem_cons_zero, List.getElem_cons_succ, Act.put, List.setIfInBounds_toArray, List.set_cons_zero, List.set_cons_succ]
            refine wpAnyH_take (i := 6) (oi := _) (v := ?_) rfl (by kernel_rfl) (by kernel_rfl) (by kernel_rfl) (fun _ _ _ h => h) (Or.inl ⟨by rfl, ?_⟩) trivial ?_
            rotate_left
            · intro w' hSw
              go_simp
              try (with_reducible rfl)
            try simp only [List.getElem_toArray, List.getElem_cons_zero, List.getElem_cons_succ, Act.put, List.setIfInBounds_toArray, List.set_cons_zero, List.set_cons_succ]
            refine wpAnyH_take (i := 7) (oi := _) (v := ?_) rfl (by kernel_rfl) (by kernel_rfl) (by kernel_rfl) (fun _ _ _ h => h) (Or.inl ⟨by rfl, ?_⟩) trivial ?_
            rotate_left
            · intro w' hSw
              go_simp
              try (with_reducible rfl)
            try simp only [List.getElem_toArray, List.getElem_cons_zero, List.getElem_cons_succ, Act.put, List.setIfInBounds_toArray, List.set_cons_zero, List.set_cons_succ]
            refine wpAnyH_take (i := 8) (oi := _) (v := ?_) rfl (by kernel_rfl) (by kernel_rfl) (by kernel_rfl) (fun _ _ _ h => h) (Or.inl ⟨by rfl, ?_⟩) trivial ?_
            rotate_left
            · intro w' hSw
              go_simp
              try (with_reducible rfl)
            try simp only [List.getElem_toArray, List.getElem_cons_zero, List.getElem_cons_succ, Act.put, List.setIfInBounds_toArray, List.set_cons_zero, List.set_cons_succ]
            refine wpAnyH_take (i := 9) (oi := _) (v := ?_) rfl (by kernel_rfl) (by kernel_rfl) (by kernel_rfl) (fun _ _ _ h => h) (Or.inl ⟨by rfl, ?_⟩) trivial ?_
            rotate_left
            · intro w' hSw
              go_simp
              try (with_reducible rfl)
            try simp only [List.getElem_toArray, List.getElem_cons_zero, List.getElem_cons_succ, Act.put, List.setIfInBounds_toArray, List.set_cons_zero, List.set_cons_succ]
            refine wpAnyH_take (i := 10) (oi := _) (v := ?_) rfl (by kernel_rfl) (by kernel_rfl) (by kernel_rfl) (fun _ _ _ h => h) (Or.inl ⟨by rfl, ?_⟩) trivial ?_
            rotate_left
            · intro w' hSw
              go_simp
              try (with_reducible rfl)
            try simp only [List.getElem_toArray, List.getElem_cons_zero, List.getElem_cons_succ, Act.put, List.setIfInBounds_toArray, List.set_cons_zero, List.set_cons_succ]
            refine wpAnyH_take (i := 11) (oi := _) (v := undef) rfl (by kernel_rfl) (by kernel_rfl) (by kernel_rfl) (fun _ _ _ h => h) (Or.inr ⟨by rfl, rfl⟩) trivial ?_
            try simp only [List.getElem_toArray, List.getElem_cons_zero, List.getElem_cons_succ, Act.put, List.setIfInBounds_toArray, List.set_cons_zero, List.set_cons_succ]
            refine wpAnyH_take (i := 12) (oi := _) (v := undef) rfl (by kernel_rfl) (by kernel_rfl) (by kernel_rfl) (fun _ _ _ h => h) (Or.inr ⟨by rfl, rfl⟩) trivial ?_
            try simp only [List.getElem_toArray, List.getElem_cons_zero, List.getElem_cons_succ, Act.put, List.setIfInBounds_toArray, List.set_cons_zero, List.set_cons_succ]
            refine wpAnyH_take (i := 13) (oi := _) (v := undef) rfl (by kernel_rfl) (by kernel_rfl) (by kernel_rfl) (fun _ _ _ h => h) (Or.inr ⟨by rfl, rfl⟩) trivial ?_
            try simp only [List.getElem_toArray, List.getElem_cons_zero, List.getElem_cons_succ, Act.put, List.setIfInBounds_toArray, List.set_cons_zero, List.set_cons_succ]
            refine wpAnyH_take (i := 14) (oi := _) (v := undef) rfl (by kernel_rfl) (by kernel_rfl) (by kernel_rfl) (fun _ _ _ h => h) (Or.inr ⟨by rfl, rfl⟩) trivial ?_
            try simp only [List.getElem_toArray, List.getElem_cons_zero, List.getElem_cons_succ, Act.put, List.setIfInBounds_toArray, List.set_cons_zero, List.set_cons_succ]
            refine wpAnyH_take (i := 15) (oi := _) (v := undef) rfl (by kernel_rfl) (by kernel_rfl) (by kernel_rfl) (fun _ _ _ h => h) (Or.inr ⟨by rfl, rfl⟩) trivial ?_
            try simp only [List.getElem_toArray, List.getElem_cons_zero, List.getElem_cons_succ, Act.put, List.setIfInBounds_toArray, List.set_cons_zero, List.set_cons_succ]
            refine wpAnyH_take (i := 16) (oi := _) (v := undef) rfl (by kernel_rfl) (by kernel_rfl) (by kernel_rfl) (fun _ _ _ h => h) (Or.inr ⟨by rfl, rfl⟩) trivial ?_
            try simp only [List.getElem_toArray, List.getElem_cons_zero, List.getElem_cons_succ, Act.put, List.setIfInBounds_toArray, List.set_cons_zero, List.set_cons_succ]
            refine wpAnyH_take (i := 17) (oi := _) (v := undef) rfl (by kernel_rfl) (by kernel_rfl) (by kernel_rfl) (fun _ _ _ h => h) (Or.inr ⟨by rfl, rfl⟩) trivial ?_
            try simp only [List.getElem_toArray, List.getElem_cons_zero, List.getElem_cons_succ, Act.put, List.setIfInBounds_toArray, List.set_cons_zero, List.set_cons_succ]
            refine wpAnyH_take (i := 18) (oi := _) (v := undef) rfl (by kernel_rfl) (by kernel_rfl) (by kernel_rfl) (fun _ _ _ h => h) (Or.inr ⟨by rfl, rfl⟩) trivial ?_
            try simp only [List.getElem_toArray, List.getElem_cons_zero, List.getElem_cons_succ, Act.put, List.setIfInBounds_toArray, List.set_cons_zero, List.set_cons_succ]
            refine wpAnyH_take (i := 19) (oi := _) (v := undef) rfl (by kernel_rfl) (by kernel_rfl) (by kernel_rfl) (fun _ _ _ h => h) (Or.inr ⟨by rfl, rfl⟩) trivial ?_
            try simp only [List.getElem_toArray, List.getElem_cons_zero, List.getElem_cons_succ, Act.put, List.setIfInBounds_toArray, List.set_cons_zero, List.set_cons_succ]
            refine wpAnyH_take (i := 20) (oi := _) (v := undef) rfl (by kernel_rfl) (by kernel_rfl) (by kernel_rfl) (fun _ _ _ h => h) (Or.inr ⟨by rfl, rfl⟩) trivial ?_
            try simp only [List.getElem_toArray, List.getElem_cons_zero, List.getElem_cons_succ, Act.put, List.setIfInBounds_toArray, List.set_cons_zero, List.set_cons_succ]
            refine wpAnyH_take (i := 21) (oi := _) (v := undef) rfl (by kernel_rfl) (by kernel_rfl) (by kernel_rfl) (fun _ _ _ h => h) (Or.inr ⟨by rfl, rfl⟩) trivial ?_
            try simp only [List.getElem_toArray, List.getElem_cons_zero, List.getElem_cons_succ, Act.put, List.setIfInBounds_toArray, List.set_cons_zero, List.set_cons_succ]
            refine wpAnyH_take (i := 22) (oi := _) (v := undef) rfl (by kernel_rfl) (by kernel_rfl) (by kernel_rfl) (fun _ _ _ h => h) (Or.inr ⟨by rfl, rfl⟩) trivial ?_
            try simp only [List.getElem_toArray, List.getElem_cons_zero, List.getElem_cons_succ, Act.put, List.setIfInBounds_toArray, List.set_cons_zero, List.set_cons_succ]
            refine wpAnyH_take (i := 23) (oi := _) (v := undef) rfl (by kernel_rfl) (by kernel_rfl) (by kernel_rfl) (fun _ _ _ h => h) (Or.inr ⟨by rfl, rfl⟩) trivial ?_
            try simp only [List.getElem_toArray, List.getElem_cons_zero, List.getElem_cons_succ, Act.put, List.setIfInBounds_toArray, List.set_cons_zero, List.set_cons_succ]
            refine wpAnyH_take (i := 24) (oi := _) (v := undef) rfl (by kernel_rfl) (by kernel_rfl) (by kernel_rfl) (fun _ _ _ h => h) (Or.inr ⟨by rfl, rfl⟩) trivial ?_
            try simp only [List.getElem_toArray, List.getElem_cons_zero, List.getElem_cons_succ, Act.put, List.setIfInBounds_toArray, List.set_cons_zero, List.set_cons_succ]
            refine wpAnyH_take (i := 25) (oi := _) (v := ?_) rfl (by kernel_rfl) (by kernel_rfl) (by kernel_rfl) (fun _ _ _ h => h) (Or.inl ⟨by rfl, ?_⟩) trivial ?_
            rotate_left
            · intro w' hSw
              go_simp
              try (with_reducible rfl)
            try simp only [List.getElem_toArray, List.getElem_cons_zero, List.getElem_cons_succ, Act.put, List.setIfInBounds_toArray, List.set_cons_zero, List.set_cons_succ]
            refine wpAnyH_take (i := 26) (oi := _) (v := ?_) rfl (by kernel_rfl) (by kernel_rfl) (by kernel_rfl) (fun _ _ _ h => h) (Or.inl ⟨by rfl, ?_⟩) trivial ?_
            rotate_left
            · intro w' hSw
              go_simp
              try (with_reducible rfl)
            try simp only [List.getElem_toArray, List.getElem_cons_zero, List.getElem_cons_succ, Act.put, List.setIfInBounds_toArray, List.set_cons_zero, List.set_cons_succ]
            refine wpAnyH_take (i := 27) (oi := _) (v := ?_) rfl (by kernel_rfl) (by kernel_rfl) (by kernel_rfl) (fun _ _ _ h => h) (Or.inl ⟨by rfl, ?_⟩) trivial ?_
            rotate_left
            · intro w' hSw
              go_simp
              try (with_reducible rfl)
            try simp only [List.getElem_toArray, List.getElem_cons_zero, List.getElem_cons_succ, Act.put, List.setIfInBounds_toArray, List.set_cons_zero, List.set_cons_succ]
            refine wpAnyH_done (by kernel_rfl) ?_ _
            go_wp2
            go_ret
            exact ⟨rfl, Hb2.out.trans (HD16.out.below.mono Hb2.out.size)⟩
          · have j2 : decide ((300 : Int) < (sy : Int)) = true := by simp; omega
            go_wp2_with fail
            refine (HSx.out _ H12.out).mono ?_
            rintro e w13 ⟨rfl, hb13⟩
            have H13 := hide (H12.out.trans (hb13.mono H12.out.size))
            clear hb13
            go_wp2_with fail
            refine (HSx'.out w13 H13.out).mono ?_
            rintro e w14 ⟨rfl, hb14⟩
            go_wp2
            go_ret
            exact ⟨rfl, Hb8.out.trans ((H13.out.trans (hb14.mono H13.out.size)).mono Hb8.out.size)⟩
        · have j1 : decide ((300 : Int) < (sx : Int)) = true := by simp; omega
          go_wp2_with fail
          refine (HSx.out _ H11.out).mono ?_
          rintro e w13 ⟨rfl, hb13⟩
          have H13 := hide (H11.out.trans (hb13.mono H11.out.size))
          clear hb13
          go_wp2_with fail
          refine (HSx'.out w13 H13.out).mono ?_
          rintro e w14 ⟨rfl, hb14⟩
          go_wp2
          go_ret
          exact ⟨rfl, Hb8.out.trans ((H13.out.trans (hb14.mono H13.out.size)).mono Hb8.out.size)⟩
      · go_wp2_with fail
        refine (HSx.out w8 (Below.refl _ _)).mono ?_
        rintro e w9 ⟨rfl, hb9⟩
        have H9 := hide hb9
        clear hb9
        go_wp2_with fail
        refine (HSx'.out w9 H9.out).mono ?_
        rintro e w10 ⟨rfl, hb10⟩
        have H10 := hide (H9.out.trans (hb10.mono H9.out.size))
        clear hb10
        go_wp2_with fail
        refine (HSx.out w10 H10.out).mono ?_
        rintro e w11 ⟨rfl, hb11⟩
        have H11 := hide (H10.out.trans (hb11.mono H10.out.size))
        clear hb11
        by_cases hx3 : sx ≤ 300
        · have j1 : decide ((300 : Int) < (sx : Int)) = false := by simp; omega
          go_wp2_with fail
          refine (HSy.out w11 H11.out).mono ?_
          rintro e w12 ⟨rfl, hb12⟩
          have H12 := hide (H11.out.trans (hb12.mono H11.out.size))
          clear hb12
          by_cases hy3 : sy ≤ 300
          · have j2 : decide ((300 : Int) < (sy : Int)) = false := by simp; omega
            obtain ⟨T, hT⟩ := HD8.out.facts.2.2.2.2.2 [x, y] (by simp; omega)
            obtain ⟨T', hT'⟩ := HD8.out.swap.facts.2.2.2.2.2 [x, y] (by simp; omega)
            have hren := (tree_same HD8.out.facts.1 HD8.out.facts.2.1 Hs1.out HD8.out.facts.2.2.2.1 (by simp; omega) hT hT').2
            have hfit : ∀ z ∈ [x, y], ∀ Z, TreeOf N d1 [z] Z → Z.cnt ≤ 300 := by
              intro z hz Z hZ
              have huq := fun (z : Nat) (hz : z < N.length) (U V : Fo) hU hV => TreeOf.unique (T := U) (U := V) HD8.out.facts.1 HD8.out.facts.2.1 HD8.out.facts.2.2.2.1 (is := [z]) (by simpa using hz) hU hV
              have hc1 := Hsx.out; have hc2 := Hsy.out
              unfold capped at hc1 hc2
              simp at hz
              rcases hz with rfl | rfl
              · rw [huq z hxn Z X hZ HX.out]; split at hc1 <;> omega
              · rw [huq z hyn Z Y hZ HY.out]; split at hc2 <;> omega
            have hfit' : ∀ z ∈ [x, y], ∀ Z, TreeOf N f1 [z] Z → Z.cnt ≤ 300 := by
              intro z hz Z hZ
              obtain ⟨U, hU⟩ := HD8.out.facts.2.2.2.2.2 [z] (by simp at hz ⊢; omega)
              have := (tree_same HD8.out.facts.1 HD8.out.facts.2.1 Hs1.out HD8.out.facts.2.2.2.1 (by simp at hz ⊢; omega) hU hZ).1
              rw [this]; exact hfit z hz U hU
            have hcnt : T.cnt ≤ 600 := by
              obtain ⟨F, hF, hS⟩ := hT
              have := hS.cnt_le (fun z hz Z hZ => hfit z hz Z ⟨F, hF, hZ⟩)
              simpa using this
            have HTy := hide (fun W A (hW : Below w8.heap.size w8 W) (hA : Nats W A [x, y]) => duo_types (HD8.out.later hW) A 2 [x, y] hA (by simp; omega) (by simp) T hT hfit)
            have HTy' := hide (fun W A (hW : Below w8.heap.size w8 W) (hA : Nats W A [x, y]) => duo_types (HD8.out.swap.later hW) A 2 [x, y] hA (by simp; omega) (by simp) T' hT' hfit')
            rw [hren] at HTy'
            have Hlen : Hid ((ren T).len = 2) := hide (by obtain ⟨F, hF, hS⟩ := hT; unfold ren; rw [Fo.len_mapv, hS.len]; rfl)
            have Hcnt : Hid ((ren T).cnt ≤ 1000000) := hide (by unfold ren; rw [Fo.cnt_mapv]; omega)
            have HTt := hide hT
            clear hT hT' hren hfit hfit' hcnt
            go_wp2_with fail
            refine (HTy.out _ _ (H12.out.alloc H12.out.size _) (ints_two w12 _ _ _)).mono ?_
            rintro e w13 ⟨P, pc, rfl, hp, hb13⟩
            have H13 := hide ((H12.out.alloc H12.out.size (.cells #[.int .i64 (x : Int), .int .i64 (y : Int)] 3)).trans (hb13.mono (by have := H12.out.size; simp; omega)))
            have Hp := hide hp
            have hz13 : w8.heap.size ≤ w13.heap.size := H13.out.size
            have hPl : Hid (∀ k, (w12.alloc (.cells #[.int .i64 (x : Int), .int .i64 (y : Int)] 3)).heap.size ≤ k ∧ k < w13.heap.size → w8.heap.size ≤ k ∧ k < w13.heap.size) := hide (fun k hk => ⟨by have := H12.out.size; have := hk.1; simp at this; omega, hk.2⟩)
            clear hp hb13
            go_wp2_with fail
            refine (HTy'.out _ _ (H13.out.alloc H13.out.size _) (ints_two w13 _ _ _)).mono ?_
            rintro e w14 ⟨Q, qc, rfl, hq, hb14⟩
            have hb1314 : Below w13.heap.size w13 w14 := ((Below.refl _ _).alloc (Nat.le_refl _) (.cells #[.int .i64 (x : Int), .int .i64 (y : Int)] 3)).trans (hb14.mono (by simp))
            have H14 := hide (H13.out.trans (hb1314.mono hz13))
            have Hp14 := hide ((Hp.out.below' (fun k hk => hk.2) hb1314).keep (P' := fun k => w8.heap.size ≤ k ∧ k < w14.heap.size) (fun k hk => by have := hPl.out k hk; have := hb1314.size; omega) (fun _ _ => rfl))
            have Hq14 := hide (hq.keep (P' := fun k => w8.heap.size ≤ k ∧ k < w14.heap.size) (w' := w14) (fun k hk => ⟨by have := hk.1; simp at this; omega, hk.2⟩) (fun _ _ => rfl))
            have HST := hide (fun c c' => sameTypes_any (fun k => w8.heap.size ≤ k ∧ k < w14.heap.size) (ren T) w14 P Q c c' Hcnt.out (fun k hk => hk.2) Hp14.out Hq14.out)
            rw [Hlen.out] at HST
            clear hq hb14 hb1314
            go_wp2_with fail
            refine (HST.out pc qc).mono ?_
            rintro e w15 ⟨rfl, hb15⟩
            have H15 := hide (H14.out.trans (hb15.mono H14.out.size))
            have Hp15 := hide (Hp14.out.below' (fun k hk => hk.2) hb15)
            have HD15 := hide (HD8.out.more H15.out)
            have hz15 : w14.heap.size ≤ w15.heap.size := hb15.size
            clear hb15 HST
            obtain ⟨Fm, hFm⟩ := HD6.out.facts.2.2.2.2.1
            obtain ⟨hdd, hnal, -⟩ := uni_refused hxn hyn HD6.out.facts.1 HD6.out.facts.2.1 HD6.out.facts.2.2.2.1 hFm HD6.out.facts.2.2.1 Hu.out (by decide)
            have Hal : Hid (false = true ↔ AlikeIn N d1 x y) := hide ⟨(fun h => by cases h), (fun h => absurd (by rw [hdd] at h; exact h) hnal)⟩
            clear hFm hdd hnal
            have HAlk := hide (duo_alike (HD15.out.drewN 1) x y hxn hyn false Hal.out)
            have qb := eq_bool
            go_upto_region 23 with fail
            refine wp_region_held_drew (S := fun _ => True) (by kernel_rfl) trivial (fun hHeld => ?_)
            refine wpAnyH_take (i := 0) (oi := _) (v := ?_) rfl (by kernel_rfl) (by kernel_rfl) (by kernel_rfl) (fun _ _ _ h => h) (Or.inl ⟨by rfl, ?_⟩) trivial ?_
            rotate_left
            · intro w' hSw
              go_simp
              try (with_reducible rfl)
            try simp only [List.getElem_toArray, List.getElem_cons_zero, List.getElem_cons_succ, Act.put, List.setIfInBounds_toArray, List.set_cons_zero, List.set_cons_succ]
            refine wpAnyH_take (i := 1) (oi := _) (v := ?_) rfl (by kernel_rfl) (by kernel_rfl) (by kernel_rfl) (fun _ _ _ h => h) (Or.inl ⟨by rfl, ?_⟩) trivial ?_
            rotate_left
            · intro w' hSw
              go_simp
              try (with_reducible rfl)
            try simp only [List.getElem_toArray, List.getElem_cons_zero, List.getElem_cons_succ, Act.put, List.setIfInBounds_toArray, List.set_cons_zero, List.set_cons_succ]
            refine wpAnyH_take (i := 2) (oi := _) (v := ?_) rfl (by kernel_rfl) (by kernel_rfl) (by kernel_rfl) (fun _ _ _ h => h) (Or.inl ⟨by rfl, ?_⟩) trivial ?_
            rotate_left
            · intro w' hSw
              go_simp
              try (with_reducible rfl)
            try simp only [List.getElem_toArray, List.getElem_cons_zero, List.getElem_cons_succ, Act.put, List.setIfInBounds_toArray, List.set_cons_zero, List.set_cons_succ]
            refine wpAnyH_take (i := 3) (oi := _) (v := ?_) rfl (by kernel_rfl) (by kernel_rfl) (by kernel_rfl) (fun _ _ _ h => h) (Or.inl ⟨by rfl, ?_⟩) trivial ?_
            rotate_left
            · intro w' hSw
              go_simp
              try (with_reducible rfl)
            try simp only [List.getElem_toArray, List.getElem_cons_zero, List.getElem_cons_succ, Act.put, List.setIfInBounds_toArray, List.set_cons_zero, List.set_cons_succ]
            refine wpAnyH_take (i := 4) (oi := _) (v := ?_) rfl (by kernel_rfl) (by kernel_rfl) (by kernel_rfl) (fun _ _ _ h => h) (Or.inl ⟨by rfl, ?_⟩) trivial ?_
            rotate_left
            · intro w' hSw
              go_simp
              try (with_reducible rfl)
            try simp only [List.getElem_toArray, List.getElem_cons_zero, List.getElem_cons_succ, Act.put, List.setIfInBounds_toArray, List.set_cons_zero, List.set_cons_succ]
            refine wpAnyH_ready (rs := [5]) (by kernel_rfl) (by simp) ?_
            refine AllReadyH.cons (o := _) rfl (fun K hK => ?_) AllReadyH.nil
            go_simp
            refine HAlk.out.mono ?_
            rintro e w16 ⟨rfl, hD16, hk16⟩
            have HD16 := hide hD16
            clear hD16 hk16
            go_wp2_with fail
            refine hK.out _ _ trivial (fun hHeld => ?_)
            clear hK K
            try simp only [List.getElem_toArray, List.getElem_cons_zero, List.getElem_cons_succ, Act.put, List.setIfInBounds_toArray, List.set_cons_zero, List.set_cons_succ]
            refine wpAnyH_take (i := 6) (oi := _) (v := ?_) rfl (by kernel_rfl) (by kernel_rfl) (by kernel_rfl) (fun _ _ _ h => h) (Or.inl ⟨by rfl, ?_⟩) trivial ?_
            rotate_left
            · intro w' hSw
              go_simp
              try (with_reducible rfl)
            try simp only [List.getElem_toArray, List.getElem_cons_zero, List.getElem_cons_succ, Act.put, List.setIfInBounds_toArray, List.set_cons_zero, List.set_cons_succ]
            refine wpAnyH_take (i := 7) (oi := _) (v := ?_) rfl (by kernel_rfl) (by kernel_rfl) (by kernel_rfl) (fun _ _ _ h => h) (Or.inl ⟨by rfl, ?_⟩) trivial ?_
            rotate_left
            · intro w' hSw
              go_simp
              try (with_reducible rfl)
            try simp only [List.getElem_toArray, List.getElem_cons_zero, List.getElem_cons_succ, Act.put, List.setIfInBounds_toArray, List.set_cons_zero, List.set_cons_succ]
            refine wpAnyH_take (i := 8) (oi := _) (v := ?_) rfl (by kernel_rfl) (by kernel_rfl) (by kernel_rfl) (fun _ _ _ h => h) (Or.inl ⟨by rfl, ?_⟩) trivial ?_
            rotate_left
            · intro w' hSw
              go_simp
              try (with_reducible rfl)
            try simp only [List.getElem_toArray, List.getElem_cons_zero, List.getElem_cons_succ, Act.put, List.setIfInBounds_toArray, List.set_cons_zero, List.set_cons_succ]
            refine wpAnyH_take (i := 9) (oi := _) (v := ?_) rfl (by kernel_rfl) (by kernel_rfl) (by kernel_rfl) (fun _ _ _ h => h) (Or.inl ⟨by rfl, ?_⟩) trivial ?_
            rotate_left
            · intro w' hSw
              go_simp
              try (with_reducible rfl)
            try simp only [List.getElem_toArray, List.getElem_cons_zero, List.getElem_cons_succ, Act.put, List.setIfInBounds_toArray, List.set_cons_zero, List.set_cons_succ]
            refine wpAnyH_take (i := 10) (oi := _) (v := ?_) rfl (by kernel_rfl) (by kernel_rfl) (by kernel_rfl) (fun _ _ _ h => h) (Or.inl ⟨by rfl, ?_⟩) trivial ?_
            rotate_left
            · intro w' hSw
              go_simp
              try (with_reducible rfl)
            try simp only [List.getElem_toArray, List.getElem_cons_zero, List.getElem_cons_succ, Act.put, List.setIfInBounds_toArray, List.set_cons_zero, List.set_cons_succ]
            refine wpAnyH_take (i := 11) (oi := _) (v := undef) rfl (by kernel_rfl) (by kernel_rfl) (by kernel_rfl) (fun _ _ _ h => h) (Or.inr ⟨by rfl, rfl⟩) trivial ?_
            try simp only [List.getElem_toArray, List.getElem_cons_zero, List.getElem_cons_succ, Act.put, List.setIfInBounds_toArray, List.set_cons_zero, List.set_cons_succ]
            refine wpAnyH_take (i := 12) (oi := _) (v := undef) rfl (by kernel_rfl) (by kernel_rfl) (by kernel_rfl) (fun _ _ _ h => h) (Or.inr ⟨by rfl, rfl⟩) trivial ?_
            try simp only [List.getElem_toArray, List.getElem_cons_zero, List.getElem_cons_succ, Act.put, List.setIfInBounds_toArray, List.set_cons_zero, List.set_cons_succ]
            refine wpAnyH_take (i := 13) (oi := _) (v := undef) rfl (by kernel_rfl) (by kernel_rfl) (by kernel_rfl) (fun _ _ _ h => h) (Or.inr ⟨by rfl, rfl⟩) trivial ?_
            try simp only [List.getElem_toArray, List.getElem_cons_zero, List.getElem_cons_succ, Act.put, List.setIfInBounds_toArray, List.set_cons_zero, List.set_cons_succ]
            refine wpAnyH_take (i := 14) (oi := _) (v := undef) rfl (by kernel_rfl) (by kernel_rfl) (by kernel_rfl) (fun _ _ _ h => h) (Or.inr ⟨by rfl, rfl⟩) trivial ?_
            try simp only [List.getElem_toArray, List.getElem_cons_zero, List.getElem_cons_succ, Act.put, List.setIfInBounds_toArray, List.set_cons_zero, List.set_cons_succ]
            refine wpAnyH_take (i := 15) (oi := _) (v := undef) rfl (by kernel_rfl) (by kernel_rfl) (by kernel_rfl) (fun _ _ _ h => h) (Or.inr ⟨by rfl, rfl⟩) trivial ?_
            try simp only [List.getElem_toArray, List.getElem_cons_zero, List.getElem_cons_succ, Act.put, List.setIfInBounds_toArray, List.set_cons_zero, List.set_cons_succ]
            refine wpAnyH_take (i := 16) (oi := _) (v := undef) rfl (by kernel_rfl) (by kernel_rfl) (by kernel_rfl) (fun _ _ _ h => h) (Or.inr ⟨by rfl, rfl⟩) trivial ?_
            try simp only [List.getElem_toArray, List.getElem_cons_zero, List.getElem_cons_succ, Act.put, List.setIfInBounds_toArray, List.set_cons_zero, List.set_cons_succ]
            refine wpAnyH_take (i := 17) (oi := _) (v := undef) rfl (by kernel_rfl) (by kernel_rfl) (by kernel_rfl) (fun _ _ _ h => h) (Or.inr ⟨by rfl, rfl⟩) trivial ?_
            try simp only [List.getElem_toArray, List.getElem_cons_zero, List.getElem_cons_succ, Act.put, List.setIfInBounds_toArray, List.set_cons_zero, List.set_cons_succ]
            refine wpAnyH_take (i := 18) (oi := _) (v := undef) rfl (by kernel_rfl) (by kernel_rfl) (by kernel_rfl) (fun _ _ _ h => h) (Or.inr ⟨by rfl, rfl⟩) trivial ?_
            try simp only [List.getElem_toArray, List.getElem_cons_zero, List.getElem_cons_succ, Act.put, List.setIfInBounds_toArray, List.set_cons_zero, List.set_cons_succ]
            refine wpAnyH_take (i := 19) (oi := _) (v := undef) rfl (by kernel_rfl) (by kernel_rfl) (by kernel_rfl) (fun _ _ _ h => h) (Or.inr ⟨by rfl, rfl⟩) trivial ?_
            try simp only [List.getElem_toArray, List.getElem_cons_zero, List.getElem_cons_succ, Act.put, List.setIfInBounds_toArray, List.set_cons_zero, List.set_cons_succ]
            refine wpAnyH_take (i := 20) (oi := _) (v := undef) rfl (by kernel_rfl) (by kernel_rfl) (by kernel_rfl) (fun _ _ _ h => h) (Or.inr ⟨by rfl, rfl⟩) trivial ?_
            try simp only [List.getElem_toArray, List.getElem_cons_zero, List.getElem_cons_succ, Act.put, List.setIfInBounds_toArray, List.set_cons_zero, List.set_cons_succ]
            refine wpAnyH_take (i := 21) (oi := _) (v := undef) rfl (by kernel_rfl) (by kernel_rfl) (by kernel_rfl) (fun _ _ _ h => h) (Or.inr ⟨by rfl, rfl⟩) trivial ?_
            try simp only [List.getElem_toArray, List.getElem_cons_zero, List.getElem_cons_succ, Act.put, List.setIfInBounds_toArray, List.set_cons_zero, List.set_cons_succ]
            refine wpAnyH_take (i := 22) (oi := _) (v := undef) rfl (by kernel_rfl) (by kernel_rfl) (by kernel_rfl) (fun _ _ _ h => h) (Or.inr ⟨by rfl, rfl⟩) trivial ?_
            try simp only [List.getElem_toArray, List.getElem_cons_zero, List.getElem_cons_succ, Act.put, List.setIfInBounds_toArray, List.set_cons_zero, List.set_cons_succ]
            refine wpAnyH_take (i := 23) (oi := _) (v := undef) rfl (by kernel_rfl) (by kernel_rfl) (by kernel_rfl) (fun _ _ _ h => h) (Or.inr ⟨by rfl, rfl⟩) trivial ?_
            try simp only [List.getElem_toArray, List.getElem_cons_zero, List.getElem_cons_succ, Act.put, List.setIfInBounds_toArray, List.set_cons_zero, List.set_cons_succ]
            refine wpAnyH_take (i := 24) (oi := _) (v := undef) rfl (by kernel_rfl) (by kernel_rfl) (by kernel_rfl) (fun _ _ _ h => h) (Or.inr ⟨by rfl, rfl⟩) trivial ?_
            try simp only [List.getElem_toArray, List.getElem_cons_zero, List.getElem_cons_succ, Act.put, List.setIfInBounds_toArray, List.set_cons_zero, List.set_cons_succ]
            refine wpAnyH_take (i := 25) (oi := _) (v := ?_) rfl (by kernel_rfl) (by kernel_rfl) (by kernel_rfl) (fun _ _ _ h => h) (Or.inl ⟨by rfl, ?_⟩) trivial ?_
            rotate_left
            · intro w' hSw
              go_simp
              try (with_reducible rfl)
            try simp only [List.getElem_toArray, List.getElem_cons_zero, List.getElem_cons_succ, Act.put, List.setIfInBounds_toArray, List.set_cons_zero, List.set_cons_succ]
            refine wpAnyH_take (i := 26) (oi := _) (v := ?_) rfl (by kernel_rfl) (by kernel_rfl) (by kernel_rfl) (fun _ _ _ h => h) (Or.inl ⟨by rfl, ?_⟩) trivial ?_
            rotate_left
            · intro w' hSw
              go_simp
              try (with_reducible rfl)
            try simp only [List.getElem_toArray, List.getElem_cons_zero, List.getElem_cons_succ, Act.put, List.setIfInBounds_toArray, List.set_cons_zero, List.set_cons_succ]
            refine wpAnyH_take (i := 27) (oi := _) (v := ?_) rfl (by kernel_rfl) (by kernel_rfl) (by kernel_rfl) (fun _ _ _ h => h) (Or.inl ⟨by rfl, ?_⟩) trivial ?_
            rotate_left
            · intro w' hSw
              go_simp
              try (with_reducible rfl)
            try simp only [List.getElem_toArray, List.getElem_cons_zero, List.getElem_cons_succ, Act.put, List.setIfInBounds_toArray, List.set_cons_zero, List.set_cons_succ]
            refine wpAnyH_done (by kernel_rfl) ?_ _
            go_wp2
            go_ret
            exact ⟨rfl, Hb2.out.trans (HD16.out.below.mono Hb2.out.size)⟩
          · have j2 : decide ((300 : Int) < (sy : Int)) = true := by simp; omega
            go_wp2_with fail
            refine (HSx.out _ H12.out).mono ?_
            rintro e w13 ⟨rfl, hb13⟩
            have H13 := hide (H12.out.trans (hb13.mono H12.out.size))
            clear hb13
            go_wp2_with fail
            refine (HSx'.out w13 H13.out).mono ?_
            rintro e w14 ⟨rfl, hb14⟩
            go_wp2
            go_ret
            exact ⟨rfl, Hb8.out.trans ((H13.out.trans (hb14.mono H13.out.size)).mono Hb8.out.size)⟩
        · have j1 : decide ((300 : Int) < (sx : Int)) = true := by simp; omega
          go_wp2_with fail
          refine (HSx.out _ H11.out).mono ?_
          rintro e w13 ⟨rfl, hb13⟩
          have H13 := hide (H11.out.trans (hb13.mono H11.out.size))
          clear hb13
          go_wp2_with fail
          refine (HSx'.out w13 H13.out).mono ?_
          rintro e w14 ⟨rfl, hb14⟩
          go_wp2
          go_ret
          exact ⟨rfl, Hb8.out.trans ((H13.out.trans (hb14.mono H13.out.size)).mono Hb8.out.size)⟩
    · rcases (show a < 0 ∨ (0 ≤ a ∧ b < 0) ∨ (0 ≤ a ∧ 0 ≤ b ∧ (made.length : Int) ≤ a) ∨ (0 ≤ a ∧ 0 ≤ b ∧ a < (made.length : Int) ∧ (made.length : Int) ≤ b) by omega) with h1 | ⟨h1, h2⟩ | ⟨h1, h2, h3⟩ | ⟨h1, h2, h3, h4⟩
      all_goals
        clear hin
        go_wp2
        go_ret
        exact ⟨rfl, Hb5.out.alloc (by have := Hb5.out.size; omega) _⟩
  · go_wp2
    go_ret
    exact ⟨rfl, Hb2.out⟩
end Go.Proofs.Ytafpbdmggnfdnaa
