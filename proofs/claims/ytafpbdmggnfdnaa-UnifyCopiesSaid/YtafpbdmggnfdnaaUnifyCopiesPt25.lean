/- Part 25 of the proof of UnifyCopies: what follows was kept as these texts: LawCopies, OpenOps. -/
import Derived.Test.YtafpbdmggnfdnaaUnifyCopiesPt1
import Derived.Test.YtafpbdmggnfdnaaUnifyCopiesPt2
import Derived.Test.YtafpbdmggnfdnaaUnifyCopiesPt3
import Derived.Test.YtafpbdmggnfdnaaUnifyCopiesPt4
import Derived.Test.YtafpbdmggnfdnaaUnifyCopiesPt5
import Derived.Test.YtafpbdmggnfdnaaUnifyCopiesPt6
import Derived.Test.YtafpbdmggnfdnaaUnifyCopiesPt7
import Derived.Test.YtafpbdmggnfdnaaUnifyCopiesPt8
import Derived.Test.YtafpbdmggnfdnaaUnifyCopiesPt9
import Derived.Test.YtafpbdmggnfdnaaUnifyCopiesPt10
import Derived.Test.YtafpbdmggnfdnaaUnifyCopiesPt11
import Derived.Test.YtafpbdmggnfdnaaUnifyCopiesPt12
import Derived.Test.YtafpbdmggnfdnaaUnifyCopiesPt13
import Derived.Test.YtafpbdmggnfdnaaUnifyCopiesPt14
import Derived.Test.YtafpbdmggnfdnaaUnifyCopiesPt15
import Derived.Test.YtafpbdmggnfdnaaUnifyCopiesPt16
import Derived.Test.YtafpbdmggnfdnaaUnifyCopiesPt17
import Derived.Test.YtafpbdmggnfdnaaUnifyCopiesPt18
import Derived.Test.YtafpbdmggnfdnaaUnifyCopiesPt19
import Derived.Test.YtafpbdmggnfdnaaUnifyCopiesPt20
import Derived.Test.YtafpbdmggnfdnaaUnifyCopiesPt21
import Derived.Test.YtafpbdmggnfdnaaUnifyCopiesPt22
import Derived.Test.YtafpbdmggnfdnaaUnifyCopiesPt23
import Derived.Test.YtafpbdmggnfdnaaUnifyCopiesPt24
import Derived.Deep.AppendLies
import Derived.Deep.CutRange
import Derived.Deep.QuietTactic
import Derived.BigQuiet
import Derived.Deep.Slices
import Derived.Deep.Fields
import Derived.ProofKit
import Derived.SizedLaws
/- The walk of the law UnifyCopies. -/
namespace Go.Proofs.Ytafpbdmggnfdnaa
open Go.RowKit
set_option linter.unusedVariables false

/-- At the head of a round: what is told before. -/
structure BefRel (W : World) (N : List Nd) (d : Nat → Nat) (vf : Value) (i : Nat) (wr : World) : Prop where
  below : Below W.heap.size W wr
  row : ∃ (ns : List Nat) (fl : List Int), cast ns = fl ∧ ns.length ≤ i ∧ fl.length ≤ i ∧ wr.ownsRow W.heap.size 3 1 vf fl.length (fl.map (Value.int .i64)) ∧ ∀ x ∈ ns, x < N.length ∧ ∃ T, TreeOf N d [x] T ∧ T.cnt ≤ 300
theorem bef_next {W wr W5 W6 : World} {N : List Nd} {d : Nat → Nat} {vf vf' : Value} {i : Nat} {ns : List Nat} {fl : List Int} (h : Below W.heap.size W wr) (hc : cast ns = fl) (h1 : ns.length ≤ i) (h2 : fl.length ≤ i) (hown : wr.ownsRow W.heap.size 3 1 vf fl.length (fl.map (Value.int .i64))) (hns : ∀ x ∈ ns, x < N.length ∧ ∃ T, TreeOf N d [x] T ∧ T.cnt ≤ 300)
    (h5 : Below wr.heap.size wr W5) (hg : (W5.alloc (.cells #[.int .i64 (i : Int)] 3)).grownBy W6 vf.ownBlock) (hown' : W6.ownsRow W.heap.size 3 1 vf' (fl.length + 1) (fl.map (Value.int .i64) ++ [.int .i64 (i : Int)])) (hi : i < N.length) (hT : ∃ T, TreeOf N d [i] T ∧ T.cnt ≤ 300) : BefRel W N d vf' (i + 1) W6 := by
  have h45 := h.trans (h5.mono h.size)
  refine ⟨(h45.alloc h45.size _).grown hg (by have := h45.size; simp; omega) (fun b hb => (hown.lt b hb).1), ns ++ [i], fl ++ [(i : Int)], ?_, by simp; omega, by simp; omega, ?_, fun x hx => ?_⟩
  · rw [← hc]; simp [cast]
  · rw [List.length_append, List.map_append]
    exact hown'
  · rcases List.mem_append.1 hx with hx | hx
    · exact hns x hx
    · simp at hx; subst hx; exact ⟨hi, hT⟩
theorem app_done {W0 W1 Wx W8 : World} {base : Nat} {v v8 : Value} {fl gl : List Int} {a : Int} (hx : Below W0.heap.size W0 Wx) (hbase : W0.heap.size ≤ base) (hown : W1.ownsRow base 3 1 v fl.length (fl.map (Value.int .i64))) (hg : Wx.grownBy W8 v.ownBlock)
    (hown8 : W8.ownsRow base 3 1 v8 (fl.length + 1) (fl.map (Value.int .i64) ++ [.int .i64 a])) (hgl : fl ++ [a] = gl) : Below W0.heap.size W0 W8 ∧ ∃ A c, v8 = .slice A gl.length c ∧ Ints W8 A gl := by
  refine ⟨hx.grown hg hx.size (fun b hb => by have := (hown.lt b hb).1; omega), ?_⟩
  subst hgl
  have h : W8.ownsRow base 3 1 v8 (fl ++ [a]).length ((fl ++ [a]).map (Value.int .i64)) := by rw [List.length_append, List.map_append]; exact hown8
  obtain ⟨A, c, h1, h2, -⟩ := ints_of_own h
  exact ⟨A, c, h1, h2⟩
theorem app_slice {W0 W1 Wx W8 : World} {base n c : Nat} {v : Value} {A : Option Addr} {fl gl : List Int} {a : Int} (hx : Below W0.heap.size W0 Wx) (hbase : W0.heap.size ≤ base) (hown : W1.ownsRow base 3 1 v fl.length (fl.map (Value.int .i64))) (hg : Wx.grownBy W8 v.ownBlock)
    (hown8 : W8.ownsRow base 3 1 (.slice A n c) (fl.length + 1) (fl.map (Value.int .i64) ++ [.int .i64 a])) (hgl : fl ++ [a] = gl) : Below W0.heap.size W0 W8 ∧ gl.length = n ∧ Ints W8 A gl := by
  obtain ⟨h1, A', c', h2, h3⟩ := app_done hx hbase hown hg hown8 hgl
  injection h2 with e1 e2 e3
  subst e1
  exact ⟨h1, e2.symm, h3⟩
section
variable {K : Nat → Prop} {w0 w w' : World} {g : Nat} {N N' : List Nd} {c c' : Nat → Nat} {v : Value}
theorem two_copy_i (h : Two K w0 g N c v N' c' w) (m : Int) (hm : inB N.length m = true) (A : Option Addr) (cap : Nat) (ys : List Int) (hA : Ints w A ys) (ha : allIn N.length ys = true) (hl : ys.length ≤ 1000) (hnl : N.length ≤ 1000) (T U : Fo) (hT : TreeOf N c [m.toNat] T) (hU : TreeOf N c (ys.map Int.toNat) U) (hTc : T.cnt ≤ 300) :
    Calls Try.prog 28 #[.pointer (some ⟨g, 0, none⟩), .int .i64 m, .slice A ys.length cap] w (TwoCopied K w0 g N c v N' c' w T U) := by
  have h1 := cast_toNat ha
  have h2 := inB_nat hm
  have := two_copy h m.toNat h2.2 A cap (ys.map Int.toNat) (by unfold Nats; rw [h1.1]; exact hA) h1.2 (by simpa using hl) hnl T U hT hU hTc
  rw [List.length_map, ← h2.1] at this
  exact this
theorem twor_copy_i (h : Two K w0 g N c v N' c' w) (m : Int) (hm : inB N'.length m = true) (A : Option Addr) (cap : Nat) (ys : List Int) (hA : Ints w A ys) (hAK : ∀ x, A = some x → K x.block) (ha : allIn N'.length ys = true) (hl : ys.length ≤ 1000) (hnl : N'.length ≤ 1000) (T U : Fo) (hT : TreeOf N' c' [m.toNat] T) (hU : TreeOf N' c' (ys.map Int.toNat) U) (hTc : T.cnt ≤ 300) :
    Calls Try.prog 29 #[.agg #[v], .int .i64 m, .slice A ys.length cap] w (TworCopied K w0 g N c N' c' w T U) := by
  have h1 := cast_toNat ha
  have h2 := inB_nat hm
  have := twor_copy h m.toNat h2.2 A cap (ys.map Int.toNat) (by unfold Nats; rw [h1.1]; exact hA) hAK h1.2 (by simpa using hl) hnl T U hT hU hTc
  rw [List.length_map, ← h2.1] at this
  exact this
end
set_option maxRecDepth 100000 in
set_option maxHeartbeats 8000000 in
theorem unifyCopies_walk (A : Option Addr) (cap : Nat) (ops0 : List OpV) (n : Int) (A2 : Option Addr) (c2 : Nat) (xs : List Int) (w : World) (hA : OpsAt w A ops0) (hl : OpsLen ops0) (hcap : ops0.length ≤ cap) (hX : Ints w A2 xs) (hxl : xs.length ≤ 140737488351232) :
    Calls Try.prog 8 #[.slice A ops0.length cap, .int .i64 n, .slice A2 xs.length c2] w fun e w' => e = .returned (.bool true) ∧ Below w.heap.size w w' := by
  obtain ⟨ops, hops⟩ : ∃ ops, ops0.take 60 = ops := ⟨_, rfl⟩
  have h60 : ops.length ≤ 60 := by rw [← hops, List.length_take]; omega
  have hA' : OpsAt w A ops := by rw [← hops]; exact hA.take 60
  have hl' : OpsLen ops := by
    rw [← hops]
    exact ⟨by rw [List.length_take]; have := hl.1; omega, fun o ho => hl.2 o (List.mem_of_mem_take ho)⟩
  have HC := hide (fun W (hW : Below w.heap.size w W) => cut_any W A cap ops0 (hA.below hW) hl hcap)
  rw [hops] at HC
  have HG := hide (fun W (hW : Below w.heap.size w W) => heavy_any W A cap ops (hA'.below hW) hl' h60)
  have HA := hide hA'; have Hl := hide hl'; have HX := hide hX
  obtain ⟨i1, ki, kz0, kz1, kz2⟩ := info_parts intInfo
  have Ki := hide ki; have Kz0 := hide kz0; have Kz1 := hide kz1; have Kz2 := hide kz2
  clear hops hA hl hA' hl' hX ki kz0 kz1 kz2
  go_enter Try.func8, Try.ntmps8
  go_wp2_with fail
  refine (alive_any _).mono ?_
  rintro e w1 ⟨rfl, hb1⟩
  have Hb1 := hide hb1
  clear hb1
  go_wp2_with fail
  refine (HC.out w1 Hb1.out).mono ?_
  rintro e w2 ⟨rfl, rfl⟩
  go_wp2_with fail
  refine (HG.out w1 Hb1.out).mono ?_
  rintro e w2 ⟨rfl, hb2⟩
  have Hb2 := hide (Hb1.out.trans (hb2.mono Hb1.out.size))
  clear hb2
  cases hh : heavyB ops
  · have Hfit : Hid (OpsFit ops) := hide (weight_fit h60 (by unfold heavyB at hh; simpa using hh))
    clear hh
    by_cases h50 : 50 < xs.length
    · have k1 : decide ((50 : Int) < (xs.length : Int)) = true := by simp; omega
      have k2 : decide (50 < xs.length) = true := by simp; omega
      go_wp2
      go_ret
      exact ⟨rfl, Hb2.out⟩
    have k1 : decide ((50 : Int) < (xs.length : Int)) = false := by simp; omega
    have k2 : decide (50 < xs.length) = false := by simp; omega
    go_wp2_with fail
    refine (runs_any w2 A cap ops (HA.out.below Hb2.out) Hfit.out).mono ?_
    rintro e w3 ⟨g, v, B, mcap, N, made, d, d', rfl, hr, hr', hT, hM⟩
    obtain ⟨Av, vcap, hv⟩ := hT.facts.2.2.2.2
    subst hv
    have hsame := (RunsR.same hr hr').2.2
    have hml : made.length ≤ 60 := by have := hr.facts.2.2.2; simp at this; omega
    have hnl : N.length ≤ 60 := by have := hr.facts.2.2.1; simp at this; omega
    have HT := hide hT; have HM := hide hM; have Hsame := hide hsame
    have hwl := hT.below.size
    clear hr hr' hT hM hsame hcap k1 k2
    go_upto_region 9 with fail
    have hb4 : Below w3.heap.size w3 (w3.alloc (.cells #[.slice Av N.length vcap] 29)) := (Below.refl _ _).alloc (Nat.le_refl _) _
    have hbox4 := heap_alloc_new w3 (.cells #[.slice Av N.length vcap] 29)
    obtain ⟨w4, hw4⟩ : ∃ w4, w3.alloc (.cells #[.slice Av N.length vcap] 29) = w4 := ⟨_, rfl⟩
    obtain ⟨bx, hbx⟩ : ∃ bx, w3.heap.size = bx := ⟨_, rfl⟩
    rw [hw4, hbx] at hbox4
    rw [hw4] at hb4
    simp only [hw4, hbx]
    have hl4 : bx < w4.heap.size := (Array.getElem?_eq_some_iff.1 hbox4).1
    have Hbox4 := hide hbox4
    have Hbw4 := hide ((Hb2.out.trans (HT.out.below.mono Hb2.out.size)).trans (hb4.mono (by have := Hb2.out.size; omega)))
    have HT4 : Hid (Two (fun b => (∃ x, B = some x ∧ x.block = b) ∨ b = bx) w2 g N d (.slice Av N.length vcap) N d' w4) := hide ((HT.out.more hb4).less (fun b hb => by
      rcases hb with hb | hb
      · exact .inl hb
      · exact .inr (by omega)))
    have HM4 := hide (Ints.below HM.out hb4)
    have Hcls := hide HT.out.cls
    have hb4a : Below w4.heap.size w4 (w4.alloc (.cells #[.int .i64 n] 3)) := (Below.refl _ _).alloc (Nat.le_refl _) _
    have HP := hide (placed_any (w4.alloc (.cells #[.int .i64 n] 3)) (some ⟨w4.heap.size, 0, none⟩) B 1 mcap [n] made (ints_one w4 n _) (Ints.below HM4.out hb4a) (by simp) (by omega))
    obtain ⟨m, hm⟩ : ∃ m, placedL [n] made = [m] := ⟨_, rfl⟩
    rw [hm] at HP
    have Hb4a := hide hb4a
    clear hw4 hb4 hbox4 HT HM hbx hb4a hm
    go_wp2_with fail
    refine HP.out.mono ?_
    rintro e w5 ⟨A5, c5, rfl, hi5, hn5, hb5⟩
    have Hb45 := hide (Hb4a.out.trans (hb5.mono (by simp)))
    obtain ⟨b5, o5, rfl, hbl5, hc5⟩ := hi5.at_ 0 (by simp)
    have hc5 : w5.cell? ⟨b5, o5, none⟩ = some (.int .i64 m) := by simpa using hc5
    have Hbw5 := hide (Hbw4.out.trans (Hb45.out.mono Hbw4.out.size))
    have HP2 := hide (placed_any w5 A2 B c2 mcap xs made (HX.out.below Hbw5.out) (Ints.below HM4.out Hb45.out) (by omega) (by omega))
    obtain ⟨ys, hys⟩ : ∃ ys, placedL xs made = ys := ⟨_, rfl⟩
    have hyl : ys.length = xs.length := by rw [← hys, placedL_length]
    rw [hys] at HP2
    have hyl' : ys.length ≤ 50 := by omega
    have hz5 := Hb45.out.size
    clear hys hyl hi5 hn5 hb5 HP Hb4a
    go_wp2_with fail
    refine HP2.out.mono ?_
    rintro e w6 ⟨A6, c6, rfl, hi6, hn6, hb6⟩
    have Hi6 := hide hi6
    have Hn6 := hide hn6
    have Hb46 := hide (Hb45.out.trans (hb6.mono Hb45.out.size))
    have hz6 := hb6.size
    clear hi6 hn6 hb6 HP2 hc5
    go_upto_region 12 with fail
    obtain ⟨w6a, hw6a⟩ : ∃ w6a, w6.alloc (.cells #[] 3) = w6a := ⟨_, rfl⟩
    have HF0 : Hid (BefRel w6 N d (.slice (some ⟨w6.heap.size, 0, none⟩) 0 0) 0 w6a) := by
      refine hide ⟨by rw [← hw6a]; exact (Below.refl _ _).alloc (Nat.le_refl _) _, [], [], rfl, by simp, by simp, ?_, by simp⟩
      rw [← hw6a]
      exact World.ownsRow_made (base := w6.heap.size) (e := 3) (size := 1) w6 #[] 0 (Nat.le_refl _) (Nat.zero_le _) rfl
    simp only [hw6a]
    clear hw6a
    go_wp2
    go_loopw [13, 14] (fun vf vi wr => ∃ i : Nat, vi = .int .i64 i ∧ i ≤ N.length ∧ Hid (BefRel w6 N d vf i wr)) (fun _ vi _ => N.length - (intOf vi).toNat)
    case atStart => exact ⟨0, rfl, by omega, HF0⟩
    case round =>
      obtain ⟨i, rfl, hi, HFr⟩ := hrel
      clear HF0
      have Hb4r := hide (Hb46.out.trans (HFr.out.below.mono Hb46.out.size))
      obtain ⟨s0, t0⟩ := one_cell ((Hb4r.out.block _ hl4).trans Hbox4.out)
      by_cases hlt : i < N.length
      · have j1 : decide ((i : Int) < (N.length : Int)) = true := by simp; omega
        have j2 : decide (i < N.length) = true := by simp; omega
        obtain ⟨T, hT⟩ := Hcls.out.1.trees [i] (by simpa using hlt)
        have hsz : SzIs N d (i : Int) (capped T.cnt) := .inr ⟨by unfold inB; simp; omega, T, by simpa using hT, rfl⟩
        have Hsz' := hide (hsz.same Hcls.out.1 Hcls.out.2 Hsame.out)
        obtain ⟨ns, fl, hcn, hnsl, hfll, hown, hns⟩ := HFr.out.row
        have Hown := hide hown
        have Hns := hide hns
        have HTi := hide hT
        have hzr := HFr.out.below.size
        clear hsz hown hns hT
        go_wp2_with fail
        refine (twor_size (HT4.out.later Hb4r.out) (i : Int) (capped T.cnt) Hsz'.out).mono ?_
        rintro e w7 ⟨rfl, hb7⟩
        have Hbr7 := hide hb7
        have hz7 := Hbr7.out.size
        clear hb7 s0 t0
        by_cases hs : T.cnt ≤ 300
        · have e2 : decide ((capped T.cnt : Int) ≤ 300) = true := by unfold capped; rw [if_pos hs]; simp; omega
          have e3 : decide (capped T.cnt ≤ 300) = true := by unfold capped; rw [if_pos hs]; simp; omega
          have O1 := hide ((own_keep Hown.out (fun b hb => Hbr7.out.block b (Hown.out.lt b hb).2)).alloc (.cells #[.int .i64 (i : Int)] 3))
          have N1 := hide (one_new w7 (.int .i64 (i : Int)) 3)
          have E1 : Hid (∀ u ∈ [Value.int .i64 (i : Int)], u.oneCell' = true) := hide (by simp [Value.oneCell'])
          go_wp2_with (at_builtin; refine wpList_append_own_at _ rfl (.tmp 67) (.tmp 69) 30 rfl w6.heap.size 3 i1 (.int .i64 0) 1 8 Try.underlying30 Ki.out Kz0.out Kz1.out Kz2.out rfl (by decide) u13 fl.length (fl.map (Value.int .i64)) rfl O1.out ⟨w7.heap.size, 0, none⟩ 1 1 [.int .i64 (i : Int)] rfl rfl N1.out E1.out (by unfold maxLen; omega) (by omega) (by simp; omega) ?_; intro v8 W8 own8 grow8 nil8 at8; clear nil8 at8; have Hown8 := hide own8; have Hgrow8 := hide grow8; clear own8 grow8)
          have HNx := hide (bef_next HFr.out.below hcn hnsl hfll Hown.out Hns.out Hbr7.out Hgrow8.out Hown8.out hlt ⟨T, HTi.out, hs⟩)
          clear e2 e3 j1 j2
          go_roundw
          case measure => simp [intOf]; omega
          case rel => exact ⟨i + 1, by go_num, by omega, HNx⟩
        · have e2 : decide ((capped T.cnt : Int) ≤ 300) = false := by unfold capped; rw [if_neg hs]; simp
          have e3 : decide (capped T.cnt ≤ 300) = false := by unfold capped; rw [if_neg hs]; simp
          have HNx : Hid (BefRel w6 N d u13 (i + 1) w7) := hide ⟨HFr.out.below.trans (Hbr7.out.mono HFr.out.below.size), ns, fl, hcn, by omega, by omega, own_keep Hown.out (fun b hb => Hbr7.out.block b (Hown.out.lt b hb).2), Hns.out⟩
          go_wp2
          clear e2 e3 j1 j2
          go_roundw
          case measure => simp [intOf]; omega
          case rel => exact ⟨i + 1, by go_num, by omega, HNx⟩
      · obtain rfl : i = N.length := by omega
        have j1 : decide ((N.length : Int) < (N.length : Int)) = false := by simp
        have j2 : decide (N.length < N.length) = false := by simp
        obtain ⟨ns, fl, hcn, hnsl, hfll, hown, hns⟩ := HFr.out.row
        obtain ⟨Af, cf, rfl, hif, hfb⟩ := ints_of_own hown
        have Hif := hide hif
        have Hfb := hide hfb
        have Hns := hide (fun x hx => (hns x hx).1)
        have Hbig : Hid (∀ y ∈ ns, ∀ B, TreeOf N d [y] B → B.cnt ≤ 300) := hide (fun y hy B hB => by
          obtain ⟨h1, T, hT, hc⟩ := hns y hy
          rw [hB.uniq Hcls.out.1 (by simpa using h1) hT]; exact hc)
        obtain ⟨Tb, hTb⟩ := Hcls.out.1.trees ns Hns.out
        have hFc : (ren Tb).cnt ≤ 1000000 := by
          have := hTb.cnt_le Hcls.out.1 Hns.out Hbig.out
          rw [ren_cnt]; omega
        have HTb := hide hTb
        have hty1 := tycase_grown Hcls.out.1 Hcls.out.1 (Grown.refl N d) Hns.out hTb Hbig.out
        rw [hcn] at hty1
        have Hty1 := hide hty1
        have hzr := HFr.out.below.size
        have Hb6r := hide HFr.out.below
        have hfl60 : fl.length ≤ 60 := by omega
        have hns60 : ns.length ≤ 60 := by omega
        clear hown hns hif hfb hTb hty1 HFr
        go_wp2_with fail
        refine (two_types (HT4.out.later Hb4r.out) Af cf fl Hif.out (by omega) Hty1.out).mono ?_
        rintro e w7 ⟨A7, c7, rfl, hf7, hb7⟩
        have Hb47 := hide (Hb4r.out.trans (hb7.mono Hb4r.out.size))
        have Hb67 := hide (Hb6r.out.trans (hb7.mono Hb6r.out.size))
        have Hf7 := hide hf7
        have Hif7 := hide (Ints.below Hif.out hb7)
        have hz7 := hb7.size
        clear hf7 hb7 s0 t0
        go_wp2_with fail
        refine (copyInts_any A6 c6 ys w7 (Ints.below Hi6.out Hb67.out) (by omega)).mono ?_
        rintro e w8 ⟨A8, c8, rfl, hi8, hn8, hb8⟩
        have Hi8 := hide hi8
        have Hb48 := hide (Hb47.out.trans (hb8.mono Hb47.out.size))
        have Hi68 := hide (Ints.below Hi6.out (Hb67.out.trans (hb8.mono Hb67.out.size)))
        have Hif8 := hide (Ints.below Hif7.out hb8)
        have Hf8 := hide (FoAt.keep Hf7.out (P' := fun b => w4.heap.size ≤ b ∧ b < w8.heap.size) (fun b hb => by have := hb8.size; omega) (fun p hp => hb8.cell hp.2))
        have hz8 := hb8.size
        have ht8 := HT4.out.more Hb48.out
        obtain ⟨K, hK⟩ : ∃ K, more (fun b => (∃ x, B = some x ∧ x.block = b) ∨ b = bx) w4 w8 = K := ⟨_, rfl⟩
        have hKn : ∀ b, w4.heap.size ≤ b → b < w8.heap.size → K b := fun b h1 h2 => by rw [← hK]; exact .inr ⟨h1, h2⟩
        have hKb : K bx := by rw [← hK]; exact .inl (.inr rfl)
        rw [hK] at ht8
        have Ht8 := hide ht8; have HKn := hide hKn; have HKb := hide hKb
        have Hbox8 := hide ((Hb48.out.block _ hl4).trans Hbox4.out)
        clear hi8 hn8 hb8 ht8 hKn hKb hK HT4 HM4 Hbox4 Hb4r Hb6r Hb47 Hb67 Hf7 Hif7 Hif Hi6 j1 j2
        rcases CpErr.ex Hcls.out.1 m ys with ⟨err, herr⟩ | ⟨hall, hin, T, hT, hTc⟩
        · have hne := herr.ne
          have Her := hide herr
          have Her' := hide (herr.same Hcls.out.1 Hcls.out.2 Hsame.out)
          clear herr
          go_wp2_with fail
          refine (two_copy_no Ht8.out m A8 c8 ys Hi8.out (by omega) err Her.out).mono ?_
          rintro e w9 ⟨rfl, hb9⟩
          have Ht9 := hide (Ht8.out.later hb9)
          have Hi69 := hide (Ints.below Hi68.out hb9)
          obtain ⟨s0, t0⟩ := one_cell ((hb9.block _ (Ht8.out.kept bx HKb.out)).trans Hbox8.out)
          clear hb9
          go_wp2_with fail
          refine (twor_copy_no Ht9.out m A6 c6 ys Hi69.out (by omega) err Her'.out).mono ?_
          rintro e w10 ⟨rfl, hb10⟩
          have Hfin := hide (((Hb2.out.trans (Ht9.out.below.mono Hb2.out.size)).trans (hb10.mono (by have := Ht9.out.below.size; have := Hb2.out.size; omega))).alloc (by have := Ht9.out.below.size; have := Hb2.out.size; have := hb10.size; omega) (.cells #[.slice Av N.length vcap] 29))
          have e1 : ((err : Int) != (err : Int)) = false := by simp
          have e2 : ((err : Int) != 0) = true := by simpa using hne
          have e3 : ((err : Int) == (err : Int)) = true := by simp
          clear hb10 s0 t0
          go_wp2
          go_ret
          exact ⟨rfl, Hfin.out⟩
        · obtain ⟨U, hU⟩ := Hcls.out.1.trees _ (cast_toNat hall).2
          have hmi : ∀ x ∈ [m.toNat], x < N.length := by simpa using (inB_nat hin).2
          obtain ⟨T', hT'⟩ := Hcls.out.2.trees [m.toNat] hmi
          obtain ⟨U', hU'⟩ := Hcls.out.2.trees _ (cast_toNat hall).2
          have hTc' : T'.cnt ≤ 300 := by rw [(tree_same Hcls.out.1.wf Hcls.out.1.closed Hsame.out Hcls.out.1.roots hmi hT hT').1]; exact hTc
          have HTT := hide hT; have HUU := hide hU; have HTT' := hide hT'; have HUU' := hide hU'
          have Hall := hide hall; have Hin := hide hin
          clear hT hU hT' hU' hmi hall hin
          go_wp2_with fail
          refine (two_copy_i Ht8.out m Hin.out A8 c8 ys Hi8.out Hall.out (by omega) (by omega) T U HTT.out HUU.out hTc).mono ?_
          rintro e w9 ⟨a, N1, c1, rfl, hg1, ha1, ht1, h29, hk9⟩
          have Hg1 := hide hg1; have Ht1 := hide ht1; have Ha1 := hide ha1; have H29 := hide h29; have Hk9 := hide hk9
          obtain ⟨s0, t0⟩ := one_cell ((hk9.2 bx HKb.out).trans Hbox8.out)
          have Hi69 := hide (Hi68.out.keeps hk9 (fun x hx => HKn.out _ (by have := Hn6.out x hx; omega) (by have := Hn6.out x hx; omega)))
          clear hg1 ht1 ha1 h29 hk9
          go_wp2_with fail
          refine (twor_copy_i H29.out m Hin.out A6 c6 ys Hi69.out (fun x hx => HKn.out _ (by have := Hn6.out x hx; omega) (by have := Hn6.out x hx; omega)) Hall.out (by omega) (by omega) T' U' HTT'.out HUU'.out hTc').mono ?_
          rintro e w10 ⟨v1, b, N2, c2', rfl, hg2, hb2, ht2, h210, hk10⟩
          obtain ⟨Av1, cv1, hv1⟩ := h210.facts.2.2.2.2
          subst hv1
          have Hk10 := hide (Hk9.out.trans hk10)
          have hn2 : (m : Int).toNat < N.length := (inB_nat Hin.out).2
          obtain ⟨F2, hc1, hc2, hF2⟩ := copy_same Hcls.out.1 Hcls.out.2 Hsame.out hn2 (cast_toNat Hall.out).2 Hns.out HTT.out HUU.out HTT'.out HUU'.out HTb.out Hbig.out hTc H29.out.cls.1 Hg1.out Ha1.out Ht1.out h210.cls.2 hg2 hb2 ht2
          rw [hcn] at hc1 hc2
          have hF2 : F2.cnt ≤ 1000000 := by omega
          obtain ⟨gl1, hgl1⟩ : ∃ gl, fl ++ [(a : Int)] = gl := ⟨_, rfl⟩
          obtain ⟨gl2, hgl2⟩ : ∃ gl, fl ++ [(b : Int)] = gl := ⟨_, rfl⟩
          have hgl1l : gl1.length ≤ 61 := by rw [← hgl1]; simp; omega
          have hgl2l : gl2.length ≤ 61 := by rw [← hgl2]; simp; omega
          rw [hgl1] at hc1
          rw [hgl2] at hc2
          have Hc1 := hide hc1; have Hc2 := hide hc2
          have hty2 := tycase_grown Hcls.out.1 h210.cls.1 Hg1.out Hns.out HTb.out Hbig.out
          rw [hcn] at hty2
          have Hty2 := hide hty2
          have H210 := hide h210
          have Hif10 := hide (Hif8.out.keeps Hk10.out (fun x hx => HKn.out _ (by have := Hfb.out x hx; omega) (by have := Hfb.out x hx; omega)))
          have Hf10 := hide (FoAt.keep (w' := w10) (P' := fun b => w4.heap.size ≤ b ∧ b < w8.heap.size) Hf8.out (fun _ hb => hb) (fun p hp => World.cell?_of_block (Hk10.out.2 p.block (HKn.out _ hp.1 hp.2))))
          have hz10 := Hk10.out.1
          clear hg2 hb2 ht2 h210 hk10 hc1 hc2 hty2 s0 t0 H29 Hk9 Hi69 Hi68 Hi8 HTT HUU HTT' HUU' Hif8 Hf8 Ht8 Hbox8 Hg1 Ht1 Hk10
          have e1 : ((0 : Int) != 0) = false := by simp
          obtain ⟨F1, hF1⟩ : ∃ F1, ren Tb = F1 := ⟨_, rfl⟩
          rw [hF1] at Hty2 Hf10 hFc
          simp only [hF1]
          clear hF1
          go_upto_region 22 with fail
          obtain ⟨w11, hw11⟩ : ∃ w11, w10.alloc (.cells #[.slice Av1 N2.length cv1] 29) = w11 := ⟨_, rfl⟩
          obtain ⟨bx2, hbx2⟩ : ∃ bx2, w10.heap.size = bx2 := ⟨_, rfl⟩
          have hbox11 := heap_alloc_new w10 (.cells #[.slice Av1 N2.length cv1] 29)
          have hb11 : Below w10.heap.size w10 w11 := by rw [← hw11]; exact (Below.refl _ _).alloc (Nat.le_refl _) _
          rw [hw11, hbx2] at hbox11
          simp only [hw11, hbx2]
          have hl11 : bx2 < w11.heap.size := (Array.getElem?_eq_some_iff.1 hbox11).1
          have Hbox11 := hide hbox11
          have H211 := hide (H210.out.later hb11)
          have Hif11 := hide (Ints.below Hif10.out hb11)
          have Hf11 := hide (FoAt.keep Hf10.out (P' := fun b => b < w11.heap.size) (fun b hb => by have := hb11.size; omega) (fun p hp => hb11.cell (by omega)))
          clear hw11 hbx2 hbox11 hb11 H210 Hif10 Hf10
          go_wp2_with fail
          refine (two_types H211.out Af cf fl Hif11.out (by omega) Hty2.out).mono ?_
          rintro e w12 ⟨A12, c12, rfl, hf12, hb12⟩
          have Hb12 := hide hb12
          have Hf1 := hide (FoAt.keep Hf11.out (P' := fun b => b < w12.heap.size) (fun b hb => by have := hb12.size; omega) (fun p hp => hb12.cell hp))
          have Hf2 := hide (FoAt.keep (w' := w12) hf12 (P' := fun b => b < w12.heap.size) (fun b hb => hb.2) (fun p hp => rfl))
          clear hf12 hb12
          go_wp2_with fail
          refine (sameTypes_any (fun b => b < w12.heap.size) F1 w12 A7 A12 c7 c12 hFc (fun b hb => hb) Hf1.out Hf2.out).mono ?_
          rintro e w13 ⟨rfl, hb13⟩
          have Hb13 := hide (Hb12.out.trans (hb13.mono Hb12.out.size))
          have Hif13 := hide (Ints.below Hif11.out Hb13.out)
          have hz13 := Hb13.out.size
          clear hb13 Hf1 Hf2 Hf11 Hty2
          go_wp2_with fail
          refine (copyInts_own Af cf fl w13 Hif13.out (by omega)).mono ?_
          rintro e w14 ⟨A14, c14, rfl, hown14, hb14⟩
          have Hb14 := hide hb14
          have hz14 := hb14.size
          have Hown14 := hide hown14
          have O1 := hide (hown14.alloc (.cells #[.int .i64 (a : Int)] 3))
          have N1' := hide (one_new w14 (.int .i64 (a : Int)) 3)
          have E1 : Hid (∀ u ∈ [Value.int .i64 (a : Int)], u.oneCell' = true) := hide (by simp [Value.oneCell'])
          clear hown14 hb14
          go_wp2_with (at_builtin; refine wpList_append_own_at _ rfl (.tmp 120) (.tmp 122) 30 rfl w13.heap.size 3 i1 (.int .i64 0) 1 8 Try.underlying30 Ki.out Kz0.out Kz1.out Kz2.out rfl (by decide) (.slice A14 fl.length c14) fl.length (fl.map (Value.int .i64)) rfl O1.out ⟨w14.heap.size, 0, none⟩ 1 1 [.int .i64 (a : Int)] rfl rfl N1'.out E1.out (by unfold maxLen; omega) (by omega) (by simp; omega) ?_; intro v8 w15 own8 grow8 nil8 at8; clear nil8 at8; obtain ⟨hb15, A15, c15, rfl, hi15⟩ := app_done (Hb14.out.alloc Hb14.out.size _) (Nat.le_refl _) Hown14.out grow8 own8 hgl1; have Hb15 := hide (Hb13.out.trans (hb15.mono Hb13.out.size)); have Hi15 := hide hi15; clear own8 grow8 hb15 hi15; go_wp2_with fail)
          refine (two_types (H211.out.later Hb15.out) A15 c15 gl1 Hi15.out (by omega) Hc1.out).mono ?_
          rintro e w16 ⟨A16, c16, rfl, hf16, hb16⟩
          have Hb16 := hide (Hb15.out.trans (hb16.mono Hb15.out.size))
          have Hf16 := hide hf16
          have H216 := hide (H211.out.later Hb16.out)
          have Hif16 := hide (Ints.below Hif11.out Hb16.out)
          obtain ⟨s0, t0⟩ := one_cell ((Hb16.out.block _ hl11).trans Hbox11.out)
          have hl2 : bx2 < w16.heap.size := by have := Hb16.out.size; omega
          have Hbw16 := hide (Hb2.out.trans (H216.out.below.mono Hb2.out.size))
          have HTy := hide (fun W A (cap : Nat) (hb : Below w16.heap.size w16 W) (hi : Ints W A gl2) => twor_types (H216.out.later hb) A cap gl2 hi (by omega) Hc2.out)
          clear hf16 hb16 O1 N1' E1 Hown14 Hb14 Hb13 Hif13 Hif11 Hi15 Hb15 H211 Hbox11 Hb12 hl11 e1
          go_upto_region 26 with fail
          refine wp_region_noPanic ?_
          refine wp_region_held_drew (S := fun w' => w'.cell? ⟨bx2, 0, none⟩ = some (.slice Av1 N2.length cv1)) (by kernel_rfl) s0 (fun hHeld => ?_)
          refine wpAnyH_take (i := 0) (oi := _) (v := ?_) rfl (by kernel_rfl) (by kernel_rfl) (by kernel_rfl) (fun _ _ _ h => h) (Or.inl ⟨by rfl, ?_⟩) hHeld ?_
          rotate_left
          · intro w' hS0
            go_simp
            try (with_reducible rfl)
          try simp only [List.getElem_toArray, List.getElem_cons_zero, List.getElem_cons_succ, Act.put, List.setIfInBounds_toArray, List.set_cons_zero, List.set_cons_succ]
          refine wpAnyH_take (i := 1) (oi := _) (v := ?_) rfl (by kernel_rfl) (by kernel_rfl) (by kernel_rfl) (fun _ _ _ h => h) (Or.inl ⟨by rfl, ?_⟩) hHeld ?_
          rotate_left
          · intro w' hS0
            go_simp
            try (with_reducible rfl)
          try simp only [List.getElem_toArray, List.getElem_cons_zero, List.getElem_cons_succ, Act.put, List.setIfInBounds_toArray, List.set_cons_zero, List.set_cons_succ]
          refine wpAnyH_take (i := 3) (oi := _) (v := ?_) rfl (by kernel_rfl) (by kernel_rfl) (by kernel_rfl) (fun _ _ _ h => h) (Or.inl ⟨by rfl, ?_⟩) hHeld ?_
          rotate_left
          · intro w' hS0
            go_simp
            try (with_reducible rfl)
          try simp only [List.getElem_toArray, List.getElem_cons_zero, List.getElem_cons_succ, Act.put, List.setIfInBounds_toArray, List.set_cons_zero, List.set_cons_succ]
          refine wpAnyH_ready (rs := [2, 4]) (by kernel_rfl) (by simp) ?_
          refine AllReadyH.cons (o := _) rfl (fun K hK => ?_) (AllReadyH.cons (o := _) rfl (fun K hK => ?_) AllReadyH.nil)
          · go_simp
            refine (copyInts_own Af cf fl w16.drew (Ints.below Hif16.out (Below.refl _ _).drew) (by omega)).mono ?_
            rintro e w17 ⟨A17, c17, rfl, hown17, hb17⟩
            have hb17' : Below w16.heap.size w16 w17 := (Below.refl w16.heap.size w16).drew.trans hb17
            have O17 : Hid ((w17.alloc (.cells #[.int .i64 (b : Int)] 3)).ownsRow w16.heap.size 3 1 (.slice A17 fl.length c17) fl.length (fl.map (Value.int .i64))) := hide (hown17.alloc _)
            have N17 := hide (one_new w17 (.int .i64 (b : Int)) 3)
            have E17 : Hid (∀ u ∈ [Value.int .i64 (b : Int)], u.oneCell' = true) := hide (by simp [Value.oneCell'])
            have q0 := (hb17'.cell (p := ⟨bx2, 0, none⟩) hl2).trans s0
            have hz17 : w16.heap.size ≤ w17.heap.size := hb17'.size
            have Hbx := hide (hb17'.alloc hz17 (.cells #[.int .i64 (b : Int)] 3))
            clear hown17 hb17 hb17' hHeld
            go_wp2_with fail
            refine hK.out _ _ q0 (fun hHeld => ?_)
            clear hK K
            try simp only [List.getElem_toArray, List.getElem_cons_zero, List.getElem_cons_succ, Act.put, List.setIfInBounds_toArray, List.set_cons_zero, List.set_cons_succ]
            refine wpAnyH_ready (rs := [4]) (by kernel_rfl) (by simp) ?_
            refine AllReadyH.cons (o := _) rfl (fun K hK => ?_) AllReadyH.nil
            go_simp
            clear hHeld
            have p0 := (World.cell?_alloc_lt w17 (.cells #[.int .i64 (b : Int)] 3) ⟨bx2, 0, none⟩ (Nat.lt_of_lt_of_le hl2 hz17)).trans q0
            refine hK.out _ _ p0 (fun hHeld => ?_)
            clear hK K
            try simp only [List.getElem_toArray, List.getElem_cons_zero, List.getElem_cons_succ, Act.put, List.setIfInBounds_toArray, List.set_cons_zero, List.set_cons_succ]
            refine wpAnyH_ready (rs := [5]) (by kernel_rfl) (by simp) ?_
            refine AllReadyH.cons (o := _) rfl (fun K hK => ?_) AllReadyH.nil
            refine step_append_lies _ (by rfl) (.tmp 130) (.tmp 132) 30 (by rfl) w16.heap.size 3 i1 (.int .i64 0) 1 8 Try.underlying30 Ki.out Kz0.out Kz1.out Kz2.out rfl (by decide) (.slice A17 fl.length c17) fl.length (fl.map (Value.int .i64)) (by rfl) O17.out ⟨w17.heap.size, 0, none⟩ 1 1 [.int .i64 (b : Int)] (by rfl) (by rfl) N17.out E17.out (by decide) (by simp only [maxLen]; omega) (by omega) (by first | omega | (simp; omega)) (w17.heap.size + 1) (by first | rfl | simp) ?_
            intro g8 cap8 W8 own8 grow8 at8 lt8
            obtain ⟨hb8, hlen8, hi8⟩ := app_slice (gl := gl2) Hbx.out (by simp) O17.out grow8 own8 hgl2
            have Hb8 := hide hb8
            have HQ := HTy.out W8 (some ⟨g8, 0, none⟩) cap8 hb8 hi8
            rw [hlen8] at HQ
            have r0 := (hb8.cell (p := ⟨bx2, 0, none⟩) hl2).trans s0
            clear own8 grow8 at8 hHeld hi8 hb8 hlen8
            refine hK.out _ _ r0 (fun hHeld => ?_)
            clear hK K
            try simp only [List.getElem_toArray, List.getElem_cons_zero, List.getElem_cons_succ, Act.put, List.setIfInBounds_toArray, List.set_cons_zero, List.set_cons_succ]
            refine wpAnyH_ready (rs := [6]) (by kernel_rfl) (by simp) ?_
            refine AllReadyH.cons (o := _) rfl (fun K hK => ?_) AllReadyH.nil
            go_simp
            refine HQ.mono ?_
            rintro e w19 ⟨A19, c19, rfl, hf19, hb19⟩
            have Hb19 := hide (Hb8.out.trans (hb19.mono Hb8.out.size))
            have Hf16' := hide (FoAt.keep Hf16.out (P' := fun b => b < w19.heap.size) (fun b hb => by have := Hb19.out.size; omega) (fun p hp => Hb19.out.cell hp.2))
            have Hf19 := hide (FoAt.keep (w' := w19) hf19 (P' := fun b => b < w19.heap.size) (fun b hb => hb.2) (fun p hp => rfl))
            have r0 := (Hb19.out.cell (p := ⟨bx2, 0, none⟩) hl2).trans s0
            clear hf19 hb19 hHeld HQ
            go_wp2_with fail
            refine hK.out _ _ r0 (fun hHeld => ?_)
            clear hK K
            try simp only [List.getElem_toArray, List.getElem_cons_zero, List.getElem_cons_succ, Act.put, List.setIfInBounds_toArray, List.set_cons_zero, List.set_cons_succ]
            refine wpAnyH_take (i := 7) (oi := _) (v := ?_) rfl (by kernel_rfl) (by kernel_rfl) (by kernel_rfl) (fun _ _ _ h => h) (Or.inl ⟨by rfl, ?_⟩) hHeld ?_
            rotate_left
            · intro w' hS0
              go_simp
              try (with_reducible rfl)
            try simp only [List.getElem_toArray, List.getElem_cons_zero, List.getElem_cons_succ, Act.put, List.setIfInBounds_toArray, List.set_cons_zero, List.set_cons_succ]
            refine wpAnyH_take (i := 8) (oi := _) (v := ?_) rfl (by kernel_rfl) (by kernel_rfl) (by kernel_rfl) (fun _ _ _ h => h) (Or.inl ⟨by rfl, ?_⟩) hHeld ?_
            rotate_left
            · intro w' hS0
              go_simp
              try (with_reducible rfl)
            try simp only [List.getElem_toArray, List.getElem_cons_zero, List.getElem_cons_succ, Act.put, List.setIfInBounds_toArray, List.set_cons_zero, List.set_cons_succ]
            refine wpAnyH_take (i := 9) (oi := _) (v := ?_) rfl (by kernel_rfl) (by kernel_rfl) (by kernel_rfl) (fun _ _ _ h => h) (Or.inl ⟨by rfl, ?_⟩) hHeld ?_
            rotate_left
            · intro w' hS0
              go_simp
              try (with_reducible rfl)
            try simp only [List.getElem_toArray, List.getElem_cons_zero, List.getElem_cons_succ, Act.put, List.setIfInBounds_toArray, List.set_cons_zero, List.set_cons_succ]
            refine wpAnyH_ready (rs := [10]) (by kernel_rfl) (by simp) ?_
            refine AllReadyH.cons (o := _) rfl (fun K hK => ?_) AllReadyH.nil
            go_simp
            refine hK.out _ _ r0 (fun hHeld => ?_)
            clear hK K
            try simp only [List.getElem_toArray, List.getElem_cons_zero, List.getElem_cons_succ, Act.put, List.setIfInBounds_toArray, List.set_cons_zero, List.set_cons_succ]
            refine wpAnyH_ready (rs := [11]) (by kernel_rfl) (by simp) ?_
            refine AllReadyH.cons (o := _) rfl (fun K hK => ?_) AllReadyH.nil
            go_simp
            refine hK.out _ _ r0 (fun hHeld => ?_)
            clear hK K
            try simp only [List.getElem_toArray, List.getElem_cons_zero, List.getElem_cons_succ, Act.put, List.setIfInBounds_toArray, List.set_cons_zero, List.set_cons_succ]
            refine wpAnyH_done (by kernel_rfl) ?_ _
            refine NoPanic.normal ?_
            clear r0 hHeld
            go_wp2_with fail
            refine (sameTypes_any (fun b => b < w19.heap.size) F2 w19 A16 A19 c16 c19 hF2 (fun b hb => hb) Hf16'.out Hf19.out).mono ?_
            rintro e w20 ⟨rfl, hb20⟩
            have Hfin := hide (Hbw16.out.trans ((Hb19.out.trans (hb20.mono Hb19.out.size)).mono Hbw16.out.size))
            clear hb20
            go_wp2
            go_ret
            exact ⟨rfl, Hfin.out⟩
          · go_simp
            clear hHeld
            have p0 := (World.cell?_alloc_lt w16 (.cells #[.int .i64 (b : Int)] 3) ⟨bx2, 0, none⟩ hl2).trans s0
            refine hK.out _ _ p0 (fun hHeld => ?_)
            clear hK K
            try simp only [List.getElem_toArray, List.getElem_cons_zero, List.getElem_cons_succ, Act.put, List.setIfInBounds_toArray, List.set_cons_zero, List.set_cons_succ]
            refine wpAnyH_ready (rs := [2]) (by kernel_rfl) (by simp) ?_
            refine AllReadyH.cons (o := _) rfl (fun K hK => ?_) AllReadyH.nil
            go_simp
            refine (copyInts_own Af cf fl _ (Ints.below Hif16.out ((((Below.refl _ _).alloc (Nat.le_refl _) _).drew))) (by omega)).mono ?_
            rintro e w17 ⟨A17, c17, rfl, hown17, hb17⟩
            have hb17a : Below (w16.heap.size + 1) (w16.alloc (.cells #[.int .i64 (b : Int)] 3)) w17 := (Below.refl _ _).drew.trans (hb17.mono (by simp))
            have hb17' : Below w16.heap.size w16 w17 := ((Below.refl w16.heap.size w16).alloc (Nat.le_refl _) _).trans (hb17a.mono (by omega))
            have O17 : Hid (w17.ownsRow (w16.heap.size + 1) 3 1 (.slice A17 fl.length c17) fl.length (fl.map (Value.int .i64))) := hide (by have := hown17; simpa using this)
            have N17 := hide (World.news_of_block (cs := #[Value.int .i64 (b : Int)]) ((hb17a.block w16.heap.size (by omega)).trans (heap_alloc_new w16 _)))
            have E17 : Hid (∀ u ∈ [Value.int .i64 (b : Int)], u.oneCell' = true) := hide (by simp [Value.oneCell'])
            have q0 := (hb17'.cell (p := ⟨bx2, 0, none⟩) hl2).trans s0
            have hz17 : w16.heap.size + 1 ≤ w17.heap.size := by have := hb17a.size; simpa using this
            have Hbx := hide hb17'
            clear hown17 hb17 hb17' hb17a hHeld p0
            go_wp2_with fail
            refine hK.out _ _ q0 (fun hHeld => ?_)
            clear hK K
            try simp only [List.getElem_toArray, List.getElem_cons_zero, List.getElem_cons_succ, Act.put, List.setIfInBounds_toArray, List.set_cons_zero, List.set_cons_succ]
            refine wpAnyH_ready (rs := [5]) (by kernel_rfl) (by simp) ?_
            refine AllReadyH.cons (o := _) rfl (fun K hK => ?_) AllReadyH.nil
            refine step_append_lies _ (by rfl) (.tmp 130) (.tmp 132) 30 (by rfl) (w16.heap.size + 1) 3 i1 (.int .i64 0) 1 8 Try.underlying30 Ki.out Kz0.out Kz1.out Kz2.out rfl (by decide) (.slice A17 fl.length c17) fl.length (fl.map (Value.int .i64)) (by rfl) O17.out ⟨w16.heap.size, 0, none⟩ 1 1 [.int .i64 (b : Int)] (by rfl) (by rfl) N17.out E17.out (by decide) (by simp only [maxLen]; omega) (by omega) (by first | omega | (simp; omega)) w17.heap.size (by first | rfl | simp) ?_
            intro g8 cap8 W8 own8 grow8 at8 lt8
            obtain ⟨hb8, hlen8, hi8⟩ := app_slice (gl := gl2) Hbx.out (by simp) O17.out grow8 own8 hgl2
            have Hb8 := hide hb8
            have HQ := HTy.out W8 (some ⟨g8, 0, none⟩) cap8 hb8 hi8
            rw [hlen8] at HQ
            have r0 := (hb8.cell (p := ⟨bx2, 0, none⟩) hl2).trans s0
            clear own8 grow8 at8 hHeld hi8 hb8 hlen8
            refine hK.out _ _ r0 (fun hHeld => ?_)
            clear hK K
            try simp only [List.getElem_toArray, List.getElem_cons_zero, List.getElem_cons_succ, Act.put, List.setIfInBounds_toArray, List.set_cons_zero, List.set_cons_succ]
            refine wpAnyH_ready (rs := [6]) (by kernel_rfl) (by simp) ?_
            refine AllReadyH.cons (o := _) rfl (fun K hK => ?_) AllReadyH.nil
            go_simp
            refine HQ.mono ?_
            rintro e w19 ⟨A19, c19, rfl, hf19, hb19⟩
            have Hb19 := hide (Hb8.out.trans (hb19.mono Hb8.out.size))
            have Hf16' := hide (FoAt.keep Hf16.out (P' := fun b => b < w19.heap.size) (fun b hb => by have := Hb19.out.size; omega) (fun p hp => Hb19.out.cell hp.2))
            have Hf19 := hide (FoAt.keep (w' := w19) hf19 (P' := fun b => b < w19.heap.size) (fun b hb => hb.2) (fun p hp => rfl))
            have r0 := (Hb19.out.cell (p := ⟨bx2, 0, none⟩) hl2).trans s0
            clear hf19 hb19 hHeld HQ
            go_wp2_with fail
            refine hK.out _ _ r0 (fun hHeld => ?_)
            clear hK K
            try simp only [List.getElem_toArray, List.getElem_cons_zero, List.getElem_cons_succ, Act.put, List.setIfInBounds_toArray, List.set_cons_zero, List.set_cons_succ]
            refine wpAnyH_take (i := 7) (oi := _) (v := ?_) rfl (by kernel_rfl) (by kernel_rfl) (by kernel_rfl) (fun _ _ _ h => h) (Or.inl ⟨by rfl, ?_⟩) hHeld ?_
            rotate_left
            · intro w' hS0
              go_simp
              try (with_reducible rfl)
            try simp only [List.getElem_toArray, List.getElem_cons_zero, List.getElem_cons_succ, Act.put, List.setIfInBounds_toArray, List.set_cons_zero, List.set_cons_succ]
            refine wpAnyH_take (i := 8) (oi := _) (v := ?_) rfl (by kernel_rfl) (by kernel_rfl) (by kernel_rfl) (fun _ _ _ h => h) (Or.inl ⟨by rfl, ?_⟩) hHeld ?_
            rotate_left
            · intro w' hS0
              go_simp
              try (with_reducible rfl)
            try simp only [List.getElem_toArray, List.getElem_cons_zero, List.getElem_cons_succ, Act.put, List.setIfInBounds_toArray, List.set_cons_zero, List.set_cons_succ]
            refine wpAnyH_take (i := 9) (oi := _) (v := ?_) rfl (by kernel_rfl) (by kernel_rfl) (by kernel_rfl) (fun _ _ _ h => h) (Or.inl ⟨by rfl, ?_⟩) hHeld ?_
            rotate_left
            · intro w' hS0
              go_simp
              try (with_reducible rfl)
            try simp only [List.getElem_toArray, List.getElem_cons_zero, List.getElem_cons_succ, Act.put, List.setIfInBounds_toArray, List.set_cons_zero, List.set_cons_succ]
            refine wpAnyH_ready (rs := [10]) (by kernel_rfl) (by simp) ?_
            refine AllReadyH.cons (o := _) rfl (fun K hK => ?_) AllReadyH.nil
            go_simp
            refine hK.out _ _ r0 (fun hHeld => ?_)
            clear hK K
            try simp only [List.getElem_toArray, List.getElem_cons_zero, List.getElem_cons_succ, Act.put, List.setIfInBounds_toArray, List.set_cons_zero, List.set_cons_succ]
            refine wpAnyH_ready (rs := [11]) (by kernel_rfl) (by simp) ?_
            refine AllReadyH.cons (o := _) rfl (fun K hK => ?_) AllReadyH.nil
            go_simp
            refine hK.out _ _ r0 (fun hHeld => ?_)
            clear hK K
            try simp only [List.getElem_toArray, List.getElem_cons_zero, List.getElem_cons_succ, Act.put, List.setIfInBounds_toArray, List.set_cons_zero, List.set_cons_succ]
            refine wpAnyH_done (by kernel_rfl) ?_ _
            refine NoPanic.normal ?_
            clear r0 hHeld
            go_wp2_with fail
            refine (sameTypes_any (fun b => b < w19.heap.size) F2 w19 A16 A19 c16 c19 hF2 (fun b hb => hb) Hf16'.out Hf19.out).mono ?_
            rintro e w20 ⟨rfl, hb20⟩
            have Hfin := hide (Hbw16.out.trans ((Hb19.out.trans (hb20.mono Hb19.out.size)).mono Hbw16.out.size))
            clear hb20
            go_wp2
            go_ret
            exact ⟨rfl, Hfin.out⟩
  · clear hh
    go_wp2
    go_ret
    exact ⟨rfl, Hb2.out⟩
end Go.Proofs.Ytafpbdmggnfdnaa

/- An argument that is a script, or a slice of integers, opened to cells; lengths by the form's reach. -/
namespace Go.Proofs.Ytafpbdmggnfdnaa
open Go.ChangeShapes Go.WideShapes Go.ChangeAt Go.RowKit Go.Deep
set_option linter.unusedVariables false

def opCell (o : OpV) : List Value := [.int .i64 o.what, .string o.name, .slice o.ad o.args.length o.cap]
section
variable {H : Type} {enc : TypeId × Value → H} {w : World} {base : Nat} {spare : Nat → Bool} {held : Bool}
theorem bytes_int : Try.prog.bytesOf 3 = 8 := by kernel_rfl
theorem bytes_op : Try.prog.bytesOf 63 = 48 := by kernel_rfl
theorem cells_int : Try.prog.cellsOf 3 = 1 := by kernel_rfl
set_option maxRecDepth 100000 in
theorem ints_read {n : Nat} {cs : List Value} {x : DataW H × List MemPlace} (h : DataW.trod enc Try.prog w base spare held n 30 cs = some x) (hs : ∀ k ∈ x.1.weights Try.prog 30, k ≤ reachBytes) :
    ∃ (A : Option Addr) (xs : List Int) (c : Nat), cs = [.slice A xs.length c] ∧ Ints w A xs ∧ xs.length ≤ 140737488351232 ∧ xs.length ≤ c := by
  rcases open_slice1 Try.underlying30 cells_int h with ⟨hcs, _⟩ | ⟨a, len, cap, m, k, V, D, Pl, hcs, _, hl, hm, hmm, hx, hi⟩
  · exact ⟨none, [], 0, by rw [hcs]; rfl, fun h => absurd rfl h, by simp, by simp⟩
  · have hlm : len ≤ m := by rw [hmm]; split <;> omega
    have hall : ∀ i, i < len → ∃ z : Int, w.cell? (a.add i) = some (.int .i64 z) := by
      intro i hi'
      obtain ⟨h1, h2⟩ := hi i (by omega)
      obtain ⟨z, ez, _⟩ := DataW.trod_int Try.underlying3 h2
      exact ⟨z, by rw [h1]; simp at ez; rw [ez]⟩
    have hlist : ∀ k, k ≤ len → ∃ xs : List Int, xs.length = k ∧ ∀ i z, xs[i]? = some z → w.cell? (a.add i) = some (.int .i64 z) := by
      intro k
      induction k with
      | zero => intro _; exact ⟨[], rfl, by simp⟩
      | succ k ih =>
        intro hk
        obtain ⟨xs, hxl, hc⟩ := ih (by omega)
        obtain ⟨z, hz⟩ := hall k (by omega)
        refine ⟨xs ++ [z], by simp [hxl], fun i y hy => ?_⟩
        by_cases hil : i < xs.length
        · rw [List.getElem?_append_left hil] at hy; exact hc i y hy
        · have : i = xs.length := by
            have := (List.getElem?_eq_some_iff.1 hy).1
            simp at this; omega
          subst this
          simp at hy
          subst hy; rw [hxl]; exact hz
    obtain ⟨xs, hxl, hc⟩ := hlist len (Nat.le_refl _)
    have hsz : (len + (m - len)) * 8 ≤ reachBytes := by
      refine hs _ ?_
      rw [hx]
      simp [DataW.weights, Try.underlying30, bytes_int]
    refine ⟨some a, xs, cap, by rw [hcs, hxl], fun hne => ?_, by unfold reachBytes at hsz; omega, by omega⟩
    have hpos := List.length_pos_iff.2 hne
    obtain ⟨b, off, sp⟩ := a
    have h0 := hc 0 xs[0] (List.getElem?_eq_getElem hpos)
    have hsp : sp = none := by simpa [Addr.add] using World.cell?_spot h0
    subst hsp
    refine ⟨b, off, rfl, ?_, fun k x hk => ?_⟩
    · have := World.block_lt_of_cell? w _ h0
      rwa [addr_add'] at this
    · have := hc k x hk
      rwa [addr_add'] at this
set_option maxRecDepth 100000 in
theorem op_read {n : Nat} {cs : List Value} {x : DataW H × List MemPlace} (h : DataW.trod enc Try.prog w base spare held n 63 cs = some x) (hs : ∀ k ∈ x.1.weights Try.prog 63, k ≤ reachBytes) :
    ∃ o : OpV, cs = opCell o ∧ Ints w o.ad o.args ∧ o.args.length ≤ 140737488351232 ∧ o.name.size ≤ 140737488351232 := by
  obtain ⟨xs, m, _, hx, hl, hxl, hf⟩ := DataW.trod_struct Try.underlying63 h
  rw [show Try.prog.cellsOf 63 = 3 by kernel_rfl] at hl
  match cs, hl with
  | [c0, c1, c2], _ =>
    have hc2 : Try.prog.cellsOf 9 = 1 := by kernel_rfl
    have hc3 : Try.prog.cellsOf 30 = 1 := by kernel_rfl
    have h0 : DataW.trod enc Try.prog w base spare held m 3 [c0] = xs[0]? := by
      have h := hf 0 _ rfl
      refine Eq.trans ?_ h
      show _ = DataW.trod enc Try.prog w base spare held m 3 (([c0, c1, c2].drop 0).take (Try.prog.cellsOf 3))
      rw [cells_int]; rfl
    have h1 : DataW.trod enc Try.prog w base spare held m 9 [c1] = xs[1]? := by
      have h := hf 1 _ rfl
      refine Eq.trans ?_ h
      show _ = DataW.trod enc Try.prog w base spare held m 9 (([c0, c1, c2].drop 1).take (Try.prog.cellsOf 9))
      rw [hc2]; rfl
    have h2 : DataW.trod enc Try.prog w base spare held m 30 [c2] = xs[2]? := by
      have h := hf 2 _ rfl
      refine Eq.trans ?_ h
      show _ = DataW.trod enc Try.prog w base spare held m 30 (([c0, c1, c2].drop 2).take (Try.prog.cellsOf 30))
      rw [hc3]; rfl
    have hx3 : xs.length = 3 := by rw [hxl]; rfl
    match xs, hx3 with
    | [x0, x1, x2], _ =>
      simp only [List.getElem?_cons_zero, List.getElem?_cons_succ] at h0 h1 h2
      have hw : ∀ k, k ∈ x1.1.weights Try.prog 9 ∨ k ∈ x2.1.weights Try.prog 30 → k ≤ reachBytes := by
        intro k hk
        refine hs k ?_
        rw [hx]
        simp only [DataW.weights, Try.underlying63, List.map_cons, List.map_nil]
        have e1 : k ∈ DataW.weightsEach Try.prog [3, 9, 30] [x0.1, x1.1, x2.1] := by
          simp only [DataW.weightsEach, List.mem_append, List.not_mem_nil, or_false]
          exact .inr hk
        exact e1
      obtain ⟨a, ea, _⟩ := DataW.trod_int Try.underlying3 h0
      obtain ⟨s, es, exs, _⟩ := DataW.trod_string Try.underlying9 h1
      obtain ⟨A, zs, cc, ec, hI, hzl, _⟩ := ints_read h2 (fun k hk => hw k (.inr hk))
      have hss : s.size ≤ 140737488351232 := by
        have := hw s.size (.inl (by rw [exs]; simp [DataW.weights]))
        unfold reachBytes at this; exact this
      refine ⟨⟨a, s, zs, A, cc⟩, ?_, hI, hzl, hss⟩
      simp at ea es ec
      rw [ea, es, ec]; rfl
set_option maxRecDepth 100000 in
theorem open_ops {W : World} {r : Reach} {b0 : Nat} {v : Value} {d : DataW H} {p : List MemPlace} (hv : Value.okWide Try.prog W r b0 22 v) (h : DataW.Trod enc Try.prog W base spare held 22 v d p) (hs : ∀ k ∈ d.weights Try.prog 22, k ≤ reachBytes) :
    ∃ (A : Option Addr) (c : Nat) (ops : List OpV), v = .slice A ops.length c ∧ OpsAt W A ops ∧ OpsLen ops ∧ ops.length ≤ c := by
  obtain ⟨a0, len0, cap0, rfl⟩ := okWide_slice Try.underlying22 hv
  obtain ⟨fuel, hf⟩ := h
  rcases open_slice Try.underlying22 hf with ⟨hcs, _⟩ | ⟨a, len, cap, m, n, D, Pl, hcs, _, hl, hm, hmm, hx, hi⟩
  · simp [Value.cells] at hcs
    obtain ⟨rfl, rfl, rfl⟩ := hcs
    exact ⟨none, 0, [], rfl, fun h => absurd rfl h, ⟨by simp, by simp⟩, by simp⟩
  · simp [Value.cells] at hcs
    obtain ⟨rfl, rfl, rfl⟩ := hcs
    have hlm : len0 ≤ m := by rw [hmm]; split <;> omega
    have h3 : Try.prog.cellsOf 63 = 3 := by kernel_rfl
    have hd : d = .slice ((List.range len0).map D) ((List.range (m - len0)).map fun j => D (len0 + j)) := by injection hx
    have hsz : (len0 + (m - len0)) * 48 ≤ reachBytes := by
      refine hs _ ?_
      rw [hd]
      simp [DataW.weights, Try.underlying22, bytes_op]
    have hall : ∀ (l : List (DataW H)) (e : DataW H) (k : Nat), e ∈ l → k ∈ e.weights Try.prog 63 → k ∈ DataW.weightsAll Try.prog 63 l := by
      intro l
      induction l with
      | nil => intro e k he; simp at he
      | cons y l ih =>
        intro e k he hk
        simp only [DataW.weightsAll, List.mem_append]
        rcases List.mem_cons.1 he with rfl | he
        · exact .inl hk
        · exact .inr (ih e k he hk)
    have hone : ∀ i, i < len0 → ∃ o : OpV, (Ints W o.ad o.args ∧ o.args.length ≤ 140737488351232 ∧ o.name.size ≤ 140737488351232) ∧ ∀ j u, (opCell o)[j]? = some u → W.cell? (a.add (i * 3 + j)) = some u := by
      intro i hi'
      obtain ⟨cs', hc, ht⟩ := hi i (by omega)
      rw [h3] at hc
      obtain ⟨o, rfl, h4⟩ := op_read ht (fun k hk => hs k (by
        rw [hd]
        have hu : Try.prog.underlying 22 = some (.slice 63) := Try.underlying22
        simp only [DataW.weights, hu, List.mem_cons, List.mem_append]
        exact .inr (.inl (hall _ (D i) k (List.mem_map.2 ⟨i, by simpa using hi', rfl⟩) hk))))
      obtain ⟨_, _, hat⟩ := World.cells?_some hc
      refine ⟨o, h4, fun j u hu => ?_⟩
      have hj : j < 3 := by
        have := (List.getElem?_eq_some_iff.1 hu).1
        simpa [opCell] using this
      have := hat j hj
      rw [Go.Deep.add_add] at this
      rw [this]; exact hu
    have hlist : ∀ k, k ≤ len0 → ∃ ops : List OpV, ops.length = k ∧ (∀ o ∈ ops, Ints W o.ad o.args ∧ o.args.length ≤ 140737488351232 ∧ o.name.size ≤ 140737488351232) ∧ ∀ i (hi : i < ops.length) j u, (opCell ops[i])[j]? = some u → W.cell? (a.add (i * 3 + j)) = some u := by
      intro k
      induction k with
      | zero => intro _; exact ⟨[], rfl, by simp, by simp⟩
      | succ k ih =>
        intro hk
        obtain ⟨ops, hol, hm1, hc⟩ := ih (by omega)
        obtain ⟨o, hom, ho⟩ := hone k (by omega)
        refine ⟨ops ++ [o], by simp [hol], ?_, fun i hi j u hu => ?_⟩
        · intro y hy
          rcases List.mem_append.1 hy with h | h
          · exact hm1 y h
          · simp at h; subst h; exact hom
        · by_cases hj : i < ops.length
          · rw [List.getElem_append_left hj] at hu; exact hc i hj j u hu
          · have he : i = ops.length := by simp at hi; omega
            subst he
            simp at hu
            rw [hol]; exact ho j u hu
    obtain ⟨ops, hol, hm1, hc⟩ := hlist len0 (Nat.le_refl _)
    subst hol
    refine ⟨some a, cap0, ops, rfl, fun hne => ?_, ⟨by unfold reachBytes at hsz; omega, fun o ho => (hm1 o ho).2⟩, by omega⟩
    obtain ⟨b, off, sp⟩ := a
    have hpos := List.length_pos_iff.2 hne
    have h0 := hc 0 hpos 0 _ rfl
    have hsp : sp = none := by simpa [Addr.add] using World.cell?_spot h0
    subst hsp
    refine ⟨b, off, rfl, ?_, fun k hk => ?_⟩
    · have := World.block_lt_of_cell? W _ h0
      rwa [addr_add'] at this
    · have e0 := hc k hk 0 _ rfl
      have e1 := hc k hk 1 _ rfl
      have e2 := hc k hk 2 _ rfl
      rw [addr_add'] at e0 e1 e2
      exact ⟨e0, e1, e2, (hm1 _ (List.getElem_mem hk)).1⟩
set_option maxRecDepth 100000 in
theorem open_ints {W : World} {r : Reach} {b0 : Nat} {v : Value} {d : DataW H} {p : List MemPlace} (hv : Value.okWide Try.prog W r b0 30 v) (h : DataW.Trod enc Try.prog W base spare held 30 v d p) (hs : ∀ k ∈ d.weights Try.prog 30, k ≤ reachBytes) :
    ∃ (A : Option Addr) (c : Nat) (xs : List Int), v = .slice A xs.length c ∧ Ints W A xs ∧ xs.length ≤ 140737488351232 := by
  obtain ⟨a0, len0, cap0, rfl⟩ := okWide_slice Try.underlying30 hv
  obtain ⟨fuel, hf⟩ := h
  obtain ⟨A, xs, c, e, h1, h2, _⟩ := ints_read hf hs
  simp [Value.cells] at e
  obtain ⟨rfl, rfl, rfl⟩ := e
  exact ⟨_, _, xs, rfl, h1, h2⟩
theorem sized_all {ts : List TypeId} {ds : List (DataW H)} (h : (DataW.weightsEach Try.prog ts ds).all (· ≤ reachBytes) = true) {j : Nat} {t : TypeId} {d : DataW H} (ht : ts[j]? = some t) (hd : ds[j]? = some d) : ∀ k ∈ d.weights Try.prog t, k ≤ reachBytes := fun k hk => by
  have := List.all_eq_true.1 h _ (DataW.weights_mem_each ht hd k hk)
  simpa using this
end
end Go.Proofs.Ytafpbdmggnfdnaa
