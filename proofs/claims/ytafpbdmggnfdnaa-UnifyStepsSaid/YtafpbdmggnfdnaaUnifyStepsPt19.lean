/- Part 19 of the proof of UnifySteps: what follows was kept as these texts: LawSteps, OpenOps. -/
import Derived.Test.YtafpbdmggnfdnaaUnifyStepsPt1
import Derived.Test.YtafpbdmggnfdnaaUnifyStepsPt2
import Derived.Test.YtafpbdmggnfdnaaUnifyStepsPt3
import Derived.Test.YtafpbdmggnfdnaaUnifyStepsPt4
import Derived.Test.YtafpbdmggnfdnaaUnifyStepsPt5
import Derived.Test.YtafpbdmggnfdnaaUnifyStepsPt6
import Derived.Test.YtafpbdmggnfdnaaUnifyStepsPt7
import Derived.Test.YtafpbdmggnfdnaaUnifyStepsPt8
import Derived.Test.YtafpbdmggnfdnaaUnifyStepsPt9
import Derived.Test.YtafpbdmggnfdnaaUnifyStepsPt10
import Derived.Test.YtafpbdmggnfdnaaUnifyStepsPt11
import Derived.Test.YtafpbdmggnfdnaaUnifyStepsPt12
import Derived.Test.YtafpbdmggnfdnaaUnifyStepsPt13
import Derived.Test.YtafpbdmggnfdnaaUnifyStepsPt14
import Derived.Test.YtafpbdmggnfdnaaUnifyStepsPt15
import Derived.Test.YtafpbdmggnfdnaaUnifyStepsPt16
import Derived.Test.YtafpbdmggnfdnaaUnifyStepsPt17
import Derived.Test.YtafpbdmggnfdnaaUnifyStepsPt18
import Derived.Deep.Slices
import Derived.Deep.Fields
import Derived.ProofKit
import Derived.SizedLaws
/- The walk of the law UnifySteps. -/
namespace Go.Proofs.Ytafpbdmggnfdnaa
open Go.RowKit
set_option linter.unusedVariables false

/-- At the head of a round of the first loop: what is fit so far. -/
structure FitRel (w4 : World) (vf : Value) (i : Int) (wr : World) : Prop where
  below : Below w4.heap.size w4 wr
  fit : ∃ fl : List Int, (fl.length : Int) ≤ i + 1 ∧ wr.ownsRow w4.heap.size 3 1 vf fl.length (fl.map (Value.int .i64))
/-- Both stores, with the second one's box and what was made beside them. -/
structure AlRel (w0 : World) (g : Nat) (N : List Nd) (c : Nat → Nat) (v : Value) (c' : Nat → Nat) (bx : Nat) (B : Option Addr) (made : List Nat) (w : World) : Prop where
  two : Two (fun b => (∃ x, B = some x ∧ x.block = b) ∨ b = bx) w0 g N c v N c' w
  box : w.heap[bx]? = some (.cells #[v] 29 (0, 0))
  nums : Nats w B made
section
variable {w0 w w' : World} {g : Nat} {N : List Nd} {c c' : Nat → Nat} {v : Value} {bx : Nat} {B : Option Addr} {made : List Nat}
theorem AlRel.later (h : AlRel w0 g N c v c' bx B made w) (hb : Below w.heap.size w w') : AlRel w0 g N c v c' bx B made w' :=
  ⟨h.two.later hb, (hb.block _ (h.two.kept bx (.inr rfl))).trans h.box, Ints.below h.nums hb⟩
theorem AlRel.drew (h : AlRel w0 g N c v c' bx B made w) : AlRel w0 g N c v c' bx B made w.drew := h.later (Below.refl _ _).drew
theorem AlRel.kept (h : AlRel w0 g N c v c' bx B made w) (ht : Two (fun b => (∃ x, B = some x ∧ x.block = b) ∨ b = bx) w0 g N c v N c' w') (hk : Keeps (fun b => (∃ x, B = some x ∧ x.block = b) ∨ b = bx) w w') : AlRel w0 g N c v c' bx B made w' :=
  ⟨ht, (hk.2 bx (.inr rfl)).trans h.box, Ints.keep h.nums hk.1 (fun a p ha hp hl => World.cell?_of_block (hk.2 p.block (.inl ⟨a, ha, hp.symm⟩)))⟩
theorem al_prog (h : AlRel w0 g N c v c' bx B made w) (a : Nat) (b : Int) (ha : a < N.length) (r : Bool) (hr : AlIs N c a b r) :
    Calls Try.prog 19 #[.pointer (some ⟨g, 0, none⟩), .int .i64 (a : Int), .int .i64 b] w fun e w' => e = .returned (.bool r) ∧ AlRel w0 g N c v c' bx B made w' := by
  refine (two_alike_is h.two a b ha r hr).mono ?_
  rintro e w1 ⟨rfl, h1, h2⟩
  exact ⟨rfl, h.kept h1 h2⟩
theorem al_ref (h : AlRel w0 g N c v c' bx B made w) (a : Nat) (b : Int) (ha : a < N.length) (r : Bool) (hr : AlIs N c' a b r) :
    Calls Try.prog 20 #[.agg #[v], .int .i64 (a : Int), .int .i64 b] w fun e w' => e = .returned (.bool r) ∧ AlRel w0 g N c v c' bx B made w' := by
  refine (twor_alike h.two a b ha r hr).mono ?_
  rintro e w1 ⟨rfl, h1⟩
  exact ⟨rfl, h.later h1⟩
theorem AlRel.num {b1 o1 : Nat} (h : AlRel w0 g N c v c' bx (some ⟨b1, o1, none⟩) made w) (i x : Nat) (hx : made[i]? = some x) : w.cell? ⟨b1, o1 + i, none⟩ = some (.int .i64 (x : Int)) := by
  obtain ⟨hl, hx'⟩ := List.getElem?_eq_some_iff.1 hx
  obtain ⟨b, o, e, -, h0⟩ := h.nums.at_ i (by simpa [cast] using hl)
  injection e with e; injection e with e1 e2; subst e1; subst e2
  simp only [cast, List.getElem_map, hx'] at h0
  exact h0
theorem AlRel.cell (h : AlRel w0 g N c v c' bx B made w) : w.cell? ⟨bx, 0, none⟩ = some v := (one_cell h.box).1
end
theorem fitrel_next {w4 wr W6 : World} {vf vf' : Value} {i : Int} {fl : List Int} (h : Below w4.heap.size w4 wr) (hl : (fl.length : Int) ≤ i + 1) (hown : wr.ownsRow w4.heap.size 3 1 vf fl.length (fl.map (Value.int .i64))) {W5 : World} (h5 : Below wr.heap.size wr W5)
    (hg : (W5.alloc (.cells #[.int .i64 i] 3)).grownBy W6 vf.ownBlock) (hown' : W6.ownsRow w4.heap.size 3 1 vf' (fl.length + 1) (fl.map (Value.int .i64) ++ [.int .i64 i])) : FitRel w4 vf' (i + 1) W6 := by
  have h45 := h.trans (h5.mono h.size)
  refine ⟨(h45.alloc h45.size _).grown hg (by have := h45.size; simp; omega) (fun b hb => (hown.lt b hb).1), fl ++ [i], by simp; omega, ?_⟩
  rw [List.length_append, List.map_append]
  exact hown'
set_option maxRecDepth 100000 in
set_option maxHeartbeats 8000000 in
theorem unifySteps_walk (A : Option Addr) (cap : Nat) (ops0 : List OpV) (w : World) (hA : OpsAt w A ops0) (hl : OpsLen ops0) (hcap : ops0.length ≤ cap) :
    Calls Try.prog 3 #[.slice A ops0.length cap] w fun e w' => e = .returned (.bool true) ∧ Below w.heap.size w w' := by
  obtain ⟨ops, hops⟩ : ∃ ops, ops0.take 60 = ops := ⟨_, rfl⟩
  have h60 : ops.length ≤ 60 := by rw [← hops, List.length_take]; omega
  have hA' : OpsAt w A ops := by rw [← hops]; exact hA.take 60
  have hl' : OpsLen ops := by
    rw [← hops]
    exact ⟨by rw [List.length_take]; have := hl.1; omega, fun o ho => hl.2 o (List.mem_of_mem_take ho)⟩
  have HC := hide (fun W (hW : Below w.heap.size w W) => cut_any W A cap ops0 (hA.below hW) hl hcap)
  rw [hops] at HC
  have HG := hide (fun W (hW : Below w.heap.size w W) => heavy_any W A cap ops (hA'.below hW) hl' h60)
  have HA := hide hA'; have Hl := hide hl'
  obtain ⟨i1, ki, kz0, kz1, kz2⟩ := info_parts intInfo
  have Ki := hide ki; have Kz0 := hide kz0; have Kz1 := hide kz1; have Kz2 := hide kz2
  clear hops hA hl hA' hl' ki kz0 kz1 kz2
  go_enter Try.func3, Try.ntmps3
  go_wp2_with fail
  refine (alive_any _).mono ?_
  rintro e w1 ⟨rfl, hb1⟩
  have Hb1 := hide hb1
  clear hb1
  go_wp2_with fail
  refine (HC.out w1 Hb1.out).mono ?_
  rintro e w2 ⟨rfl, rfl⟩
  go_wp2_with fail
  refine (HG.out w1 Hb1.out).mono ?_
  rintro e w2 ⟨rfl, hb2⟩
  have Hb2 := hide (Hb1.out.trans (hb2.mono Hb1.out.size))
  clear hb2
  cases hh : heavyB ops
  · have Hfit : Hid (OpsFit ops) := hide (weight_fit h60 (by unfold heavyB at hh; simpa using hh))
    clear hh
    go_wp2_with fail
    refine (runs_any w2 A cap ops (HA.out.below Hb2.out) Hfit.out).mono ?_
    rintro e w3 ⟨g, v, B, mcap, N, made, d, d', rfl, hr, hr', hT, hM⟩
    obtain ⟨Av, vcap, hv⟩ := hT.facts.2.2.2.2
    subst hv
    have hsame := (RunsR.same hr hr').2.2
    have hml : made.length ≤ 60 := by have := hr.facts.2.2.2; simp at this; omega
    have hnl : N.length ≤ 60 := by have := hr.facts.2.2.1; simp at this; omega
    have Hmn := hide hr.facts.1
    have HT := hide hT; have HM := hide hM; have Hsame := hide hsame
    have hwl := hT.below.size
    clear hr hr' hT hM hsame hcap
    go_upto_region 9 with fail
    have hb4 : Below w3.heap.size w3 (w3.alloc (.cells #[.slice Av N.length vcap] 29)) := (Below.refl _ _).alloc (Nat.le_refl _) _
    have hbox4 := heap_alloc_new w3 (.cells #[.slice Av N.length vcap] 29)
    obtain ⟨w4, hw4⟩ : ∃ w4, w3.alloc (.cells #[.slice Av N.length vcap] 29) = w4 := ⟨_, rfl⟩
    obtain ⟨bx, hbx⟩ : ∃ bx, w3.heap.size = bx := ⟨_, rfl⟩
    rw [hw4, hbx] at hbox4
    rw [hw4] at hb4
    simp only [hw4, hbx]
    have hl4 : bx < w4.heap.size := (Array.getElem?_eq_some_iff.1 hbox4).1
    have Hbox4 := hide hbox4
    have Hbw4 := hide ((Hb2.out.trans (HT.out.below.mono Hb2.out.size)).trans (hb4.mono (by have := Hb2.out.size; omega)))
    have HAl4 : Hid (AlRel w2 g N d (.slice Av N.length vcap) d' bx B made w4) := hide ⟨(HT.out.more hb4).less (fun b hb => by
      rcases hb with hb | hb
      · exact .inl hb
      · exact .inr (by omega)), hbox4, Ints.below HM.out hb4⟩
    have Hcls := hide HT.out.cls
    clear hw4 hb4 hbox4 HT HM hbx
    go_upto_region 10 with fail
    obtain ⟨w5, hw5⟩ : ∃ w5, w4.alloc (.cells #[] 3) = w5 := ⟨_, rfl⟩
    have HF5 : Hid (FitRel w4 (.slice (some ⟨w4.heap.size, 0, none⟩) 0 0) (-1) w5) := by
      refine hide ⟨by rw [← hw5]; exact (Below.refl _ _).alloc (Nat.le_refl _) _, [], by simp, ?_⟩
      rw [← hw5]
      exact World.ownsRow_made (base := w4.heap.size) (e := 3) (size := 1) w4 #[] 0 (Nat.le_refl _) (Nat.zero_le _) rfl
    simp only [hw5]
    clear hw5
    go_wp2
    go_loopw [7, 8] (fun vf vi wr => ∃ i : Int, vi = .int .i64 i ∧ -1 ≤ i ∧ i ≤ (N.length : Int) + 1 ∧ Hid (FitRel w4 vf i wr)) (fun _ vi _ => ((N.length : Int) + 1 - intOf vi).toNat)
    case atStart => exact ⟨-1, rfl, by omega, by omega, HF5⟩
    case round =>
      obtain ⟨i, rfl, hi1, hi2, HFr⟩ := hrel
      clear HF5
      have hboxr := (HFr.out.below.block _ hl4).trans Hbox4.out
      obtain ⟨s0, t0⟩ := one_cell hboxr
      clear hboxr
      by_cases hlt : i ≤ (N.length : Int)
      · have j1 : decide (i ≤ (N.length : Int)) = true := by simp; omega
        obtain ⟨sz, hsz, hsl⟩ := SzIs.ex Hcls.out.1 i
        have Hsz := hide hsz
        have Hsz' := hide (hsz.same Hcls.out.1 Hcls.out.2 Hsame.out)
        obtain ⟨fl, hfl, hown⟩ := HFr.out.fit
        have Hown := hide hown
        have hzr := HFr.out.below.size
        clear hsz hown
        go_wp2_with fail
        refine (two_size (HAl4.out.two.later HFr.out.below) i sz Hsz.out).mono ?_
        rintro e w6 ⟨rfl, hb6⟩
        have Hb46 := hide (HFr.out.below.trans (hb6.mono HFr.out.below.size))
        have Hbr6 := hide hb6
        have hboxr := (Hb46.out.block _ hl4).trans Hbox4.out
        clear s0 t0 hb6
        obtain ⟨s0, t0⟩ := one_cell hboxr
        clear hboxr
        go_wp2_with fail
        refine (twor_size (HAl4.out.two.later Hb46.out) i sz Hsz'.out).mono ?_
        rintro e w7 ⟨rfl, hb7⟩
        have Hbr7 := hide (Hbr6.out.trans (hb7.mono Hbr6.out.size))
        have hz7 := Hbr7.out.size
        clear hb7 s0 t0
        have e1 : ((sz : Int) != (sz : Int)) = false := by simp
        by_cases hs : 0 < sz ∧ sz ≤ 300
        · have e2 : decide ((0 : Int) < (sz : Int)) = true := by simp; omega
          have e3 : decide ((sz : Int) ≤ 300) = true := by simp; omega
          have e4 : decide (0 < sz) = true := by simp; omega
          have e5 : decide (sz ≤ 300) = true := by simp; omega
          obtain ⟨hs1, hs2⟩ := hs
          have O1 := hide ((own_keep Hown.out (fun b hb => Hbr7.out.block b (Hown.out.lt b hb).2)).alloc (.cells #[.int .i64 i] 3))
          have N1 := hide (one_new w7 (.int .i64 i) 3)
          have E1 : Hid (∀ u ∈ [Value.int .i64 i], u.oneCell' = true) := hide (by simp [Value.oneCell'])
          go_wp2_with (at_builtin; refine wpList_append_own_at _ rfl (.tmp 54) (.tmp 56) 30 rfl w4.heap.size 3 i1 (.int .i64 0) 1 8 Try.underlying30 Ki.out Kz0.out Kz1.out Kz2.out rfl (by decide) u7 fl.length (fl.map (Value.int .i64)) rfl O1.out ⟨w7.heap.size, 0, none⟩ 1 1 [.int .i64 i] rfl rfl N1.out E1.out (by unfold maxLen; omega) (by omega) (by simp; omega) ?_; intro v8 W8 own8 grow8 nil8 at8; clear nil8 at8; have Hown8 := hide own8; have Hgrow8 := hide grow8; clear own8 grow8)
          have HNx := hide (fitrel_next HFr.out.below hfl Hown.out Hbr7.out Hgrow8.out Hown8.out)
          clear e1 e2 e3 e4 e5 j1
          go_roundw
          case measure => simp [intOf]; omega
          case rel => exact ⟨i + 1, by go_num, by omega, by omega, HNx⟩
        · have HNx : Hid (FitRel w4 u7 (i + 1) w7) := hide ⟨HFr.out.below.trans (Hbr7.out.mono HFr.out.below.size), fl, by omega, own_keep Hown.out (fun b hb => Hbr7.out.block b (Hown.out.lt b hb).2)⟩
          by_cases h0 : 0 < sz
          · have e2 : decide ((0 : Int) < (sz : Int)) = true := by simp; omega
            have e3 : decide ((sz : Int) ≤ 300) = false := by simp; omega
            have e4 : decide (0 < sz) = true := by simp; omega
            have e5 : decide (sz ≤ 300) = false := by simp; omega
            go_wp2
            clear e1 e2 e3 e4 e5 j1
            go_roundw
            case measure => simp [intOf]; omega
            case rel => exact ⟨i + 1, by go_num, by omega, by omega, HNx⟩
          · have e2 : decide ((0 : Int) < (sz : Int)) = false := by simp; omega
            have e4 : decide (0 < sz) = false := by simp; omega
            go_wp2
            clear e1 e2 e4 j1
            go_roundw
            case measure => simp [intOf]; omega
            case rel => exact ⟨i + 1, by go_num, by omega, by omega, HNx⟩
      · obtain rfl : i = (N.length : Int) + 1 := by omega
        have j1 : decide ((N.length : Int) + 1 ≤ (N.length : Int)) = false := by simp; omega
        obtain ⟨fl, hfl, hown⟩ := HFr.out.fit
        obtain ⟨Af, cf, rfl, hif, -⟩ := ints_of_own hown
        have Hif := hide hif
        have hfl' : fl.length ≤ 62 := by omega
        obtain ⟨err, F, hty, hcnt⟩ := TyCase.ex Hcls.out.1 fl
        have Hty := hide hty
        have Hty' := hide (hty.same Hcls.out.1 Hcls.out.2 Hsame.out)
        have hcnt' : F.cnt ≤ 1000000 := by omega
        have Hb46 := hide HFr.out.below
        clear hown hif hfl hcnt hty HFr hi1 hi2 hlt
        go_wp2_with fail
        refine (copyInts_any Af cf fl wr Hif.out (by omega)).mono ?_
        rintro e w6 ⟨A6, c6, rfl, hi6, hn6, hb6⟩
        have Hi6 := hide hi6
        have Hb47 := hide (Hb46.out.trans (hb6.mono Hb46.out.size))
        have Hif6 := hide (Ints.below Hif.out hb6)
        clear hi6 hn6 hb6 s0 t0
        go_wp2_with fail
        refine (two_types (HAl4.out.two.later Hb47.out) A6 c6 fl Hi6.out (by omega) Hty.out).mono ?_
        rintro e w7 ⟨A7, c7, rfl, hf7, hb7⟩
        have Hb48 := hide (Hb47.out.trans (hb7.mono Hb47.out.size))
        have Hf7 := hide hf7
        have Hif7 := hide (Ints.below Hif6.out hb7)
        have hbox7 := (Hb48.out.block _ hl4).trans Hbox4.out
        obtain ⟨s0, t0⟩ := one_cell hbox7
        clear hf7 hb7 hbox7
        go_wp2_with fail
        refine (twor_types (HAl4.out.two.later Hb48.out) Af cf fl Hif7.out (by omega) Hty'.out).mono ?_
        rintro e w8 ⟨A8, c8, rfl, hf8, hb8⟩
        have Hb49 := hide (Hb48.out.trans (hb8.mono Hb48.out.size))
        have Hf78 := hide (FoAt.keep Hf7.out (P' := fun b => b < w8.heap.size) (fun b hb => by have := hb8.size; omega) (fun p hp => hb8.cell hp.2))
        have Hf88 := hide (FoAt.keep (w' := w8) hf8 (P' := fun b => b < w8.heap.size) (fun b hb => hb.2) (fun p hp => rfl))
        clear hf8 hb8 s0 t0
        have ke : ((err : Int) != err) = false := by simp
        go_wp2_with fail
        refine (sameTypes_any (fun b => b < w8.heap.size) F w8 A7 A8 c7 c8 hcnt' (fun b hb => hb) Hf78.out Hf88.out).mono ?_
        rintro e w9 ⟨rfl, hb9⟩
        have HAl9 := hide (HAl4.out.later (Hb49.out.trans (hb9.mono Hb49.out.size)))
        clear hb9 Hb46 Hb47 Hb48 Hb49 Hif Hif6 Hif7 Hi6 Hty Hty' Hf7 Hf78 Hf88 hcnt' HAl4 Hbox4 hl4
        go_upto_region 22 with fail
        clear ke j1
        obtain ⟨wo, rfl⟩ : ∃ wo : World, wo = w9 := ⟨_, rfl⟩
        go_wp2
        go_loopw [14] (fun vi wx => ∃ i : Nat, vi = .int .i64 i ∧ i ≤ made.length ∧ Hid (AlRel w2 g N d (.slice Av N.length vcap) d' bx B made wx)) (fun vi _ => made.length - (intOf vi).toNat)
        case atStart => exact ⟨0, rfl, by omega, HAl9⟩
        case round =>
          obtain ⟨i, rfl, hi, HAr⟩ := hrel
          clear HAl9
          by_cases hlt : i < made.length
          · have j1 : decide ((i : Int) < (made.length : Int)) = true := by simp; omega
            have j2 : decide (i < made.length) = true := by simp; omega
            by_cases h12 : i < 12
            · have j3 : decide ((i : Int) < 12) = true := by simp; omega
              have j4 : decide (i < 12) = true := by simp; omega
              go_wp2
              clear j1 j2 j3 j4
              obtain ⟨wi, rfl⟩ : ∃ wi : World, wi = wr := ⟨_, rfl⟩
              go_loopw [15] (fun vj wx => ∃ j : Int, vj = .int .i64 j ∧ -1 ≤ j ∧ j ≤ (made.length : Int) ∧ Hid (AlRel w2 g N d (.slice Av N.length vcap) d' bx B made wx)) (fun vj _ => ((made.length : Int) - intOf vj).toNat)
              case atStart => exact ⟨-1, rfl, by omega, by omega, HAr⟩
              case round =>
                obtain ⟨j, rfl, hj1, hj2, HBr⟩ := hrel
                clear HAr
                have jj : decide (j < (made.length : Int)) = decide (j < (made.length : Int)) := rfl
                by_cases hjl : j < (made.length : Int)
                · have j1 : decide (j < (made.length : Int)) = true := by simp; omega
                  by_cases hj12 : j < 12
                  · have j2 : decide (j < 12) = true := by simp; omega
                    obtain ⟨b1, o1, hB1, hb1l, d0⟩ := HBr.out.nums.at_ i (by simpa [cast] using hlt)
                    simp only [cast, List.getElem_map] at d0
                    obtain ⟨x, hx⟩ : ∃ x, made[i] = x := ⟨_, rfl⟩
                    rw [hx] at d0
                    have Hxi : Hid (made[i]? = some x) := hide (by rw [List.getElem?_eq_getElem hlt, hx])
                    have hxn : x < N.length := Hmn.out x (by rw [← hx]; exact List.getElem_mem _)
                    obtain ⟨s0, t0⟩ := one_cell HBr.out.box
                    by_cases hj0 : 0 ≤ j
                    · obtain ⟨j, rfl⟩ : ∃ n : Nat, j = n := ⟨j.toNat, by omega⟩
                      have hjn : j < made.length := by omega
                      have j3 : decide ((0 : Int) ≤ (j : Int)) = true := by simp
                      obtain ⟨b2, o2, hB2, hb2l, d1⟩ := HBr.out.nums.at_ j (by simpa [cast] using hjn)
                      obtain ⟨rfl, rfl⟩ : b1 = b2 ∧ o1 = o2 := by rw [hB1] at hB2; injection hB2 with e'; injection e' with e1 e2; exact ⟨e1, e2⟩
                      simp only [cast, List.getElem_map] at d1
                      obtain ⟨y, hy⟩ : ∃ y, made[j] = y := ⟨_, rfl⟩
                      rw [hy] at d1
                      subst hB1
                      clear hx hy hB2
                      obtain ⟨r, hr⟩ := AlIs.ex N d x (y : Int)
                      have Hr := hide hr
                      have Hr' := hide (hr.same Hsame.out)
                      have e1 : (r != r) = false := by simp
                      have e2 : (!(r == r)) = false := by simp
                      have hbl : b1 < wr.heap.size := hb1l
                      have hblx : bx < wr.heap.size := HBr.out.two.kept bx (.inr rfl)
                      have HB0 := hide HBr.out.drew
                      clear hr
                      go_upto_region 31 with fail
                      go_region_held3 (fun w' => w'.cell? ⟨b1, o1 + i, none⟩ = some (.int .i64 (x : Int)) ∧ w'.cell? ⟨bx, 0, none⟩ = some (.slice Av N.length vcap)) (go_keep)
                        (first | (go_at_call 19; refine (al_prog (by first | exact HAl.out | exact HB0.out) x (y : Int) hxn r Hr.out).mono ?_; rintro e wq ⟨rfl, hq⟩; have q0 := hq.num i x Hxi.out; have q1 := hq.cell; have HAl := hide hq; clear hq) | (go_at_call 20; refine (al_ref (by first | exact HAl.out | exact HB0.out) x (y : Int) hxn r Hr'.out).mono ?_; rintro e wq ⟨rfl, hq⟩; have q0 := hq.num i x Hxi.out; have q1 := hq.cell; have HAl := hide hq; clear hq))
                      all_goals
                        rename_i hHeld
                        clear hHeld
                        go_wp2
                        clear e1 e2 j1 j2 j3
                        go_roundw
                        case measure => simp [intOf] <;> omega
                        case rel => exact ⟨(j : Int) + 1, by go_num, by omega, by omega, HAl⟩
                    · obtain rfl : j = -1 := by omega
                      have j3 : decide ((0 : Int) ≤ -1) = false := by decide
                      subst hB1
                      clear hx
                      obtain ⟨r, hr⟩ := AlIs.ex N d x (-1)
                      have Hr := hide hr
                      have Hr' := hide (hr.same Hsame.out)
                      have e1 : (r != r) = false := by simp
                      have e2 : (!(r == r)) = false := by simp
                      have hbl : b1 < wr.heap.size := hb1l
                      have hblx : bx < wr.heap.size := HBr.out.two.kept bx (.inr rfl)
                      have HB0 := hide HBr.out.drew
                      clear hr
                      go_upto_region 31 with fail
                      go_region_held3 (fun w' => w'.cell? ⟨b1, o1 + i, none⟩ = some (.int .i64 (x : Int)) ∧ w'.cell? ⟨bx, 0, none⟩ = some (.slice Av N.length vcap)) (go_keep)
                        (first | (go_at_call 19; refine (al_prog (by first | exact HAl.out | exact HB0.out) x (-1) hxn r Hr.out).mono ?_; rintro e wq ⟨rfl, hq⟩; have q0 := hq.num i x Hxi.out; have q1 := hq.cell; have HAl := hide hq; clear hq) | (go_at_call 20; refine (al_ref (by first | exact HAl.out | exact HB0.out) x (-1) hxn r Hr'.out).mono ?_; rintro e wq ⟨rfl, hq⟩; have q0 := hq.num i x Hxi.out; have q1 := hq.cell; have HAl := hide hq; clear hq))
                      all_goals
                        rename_i hHeld
                        clear hHeld
                        go_wp2
                        clear e1 e2 j1 j2 j3
                        go_roundw
                        case measure => simp [intOf] <;> omega
                        case rel => exact ⟨0, by go_num, by omega, by omega, HAl⟩
                  · have j2 : decide (j < 12) = false := by simp; omega
                    go_wp2
                    clear j1 j2
                    go_roundw
                    case measure => simp [intOf]; omega
                    case rel => exact ⟨i + 1, by go_num, by omega, HBr⟩
                · have j1 : decide (j < (made.length : Int)) = false := by simp; omega
                  go_wp2
                  clear j1
                  go_roundw
                  case measure => simp [intOf]; omega
                  case rel => exact ⟨i + 1, by go_num, by omega, HBr⟩
            · have j3 : decide ((i : Int) < 12) = false := by simp; omega
              have j4 : decide (i < 12) = false := by simp; omega
              have Hfin := hide (Hb2.out.trans (HAr.out.two.below.mono Hb2.out.size))
              go_wp2
              go_ret
              exact ⟨rfl, Hfin.out⟩
          · obtain rfl : i = made.length := by omega
            have Hfin := hide (Hb2.out.trans (HAr.out.two.below.mono Hb2.out.size))
            go_wp2
            go_ret
            exact ⟨rfl, Hfin.out⟩
  · clear hh
    go_wp2
    go_ret
    exact ⟨rfl, Hb2.out⟩
end Go.Proofs.Ytafpbdmggnfdnaa

/- An argument that is a script, or a slice of integers, opened to cells; lengths by the form's reach. -/
namespace Go.Proofs.Ytafpbdmggnfdnaa
open Go.ChangeShapes Go.WideShapes Go.ChangeAt Go.RowKit Go.Deep
set_option linter.unusedVariables false

def opCell (o : OpV) : List Value := [.int .i64 o.what, .string o.name, .slice o.ad o.args.length o.cap]
section
variable {H : Type} {enc : TypeId × Value → H} {w : World} {base : Nat} {spare : Nat → Bool} {held : Bool}
theorem bytes_int : Try.prog.bytesOf 3 = 8 := by kernel_rfl
theorem bytes_op : Try.prog.bytesOf 63 = 48 := by kernel_rfl
theorem cells_int : Try.prog.cellsOf 3 = 1 := by kernel_rfl
set_option maxRecDepth 100000 in
theorem ints_read {n : Nat} {cs : List Value} {x : DataW H × List MemPlace} (h : DataW.trod enc Try.prog w base spare held n 30 cs = some x) (hs : ∀ k ∈ x.1.weights Try.prog 30, k ≤ reachBytes) :
    ∃ (A : Option Addr) (xs : List Int) (c : Nat), cs = [.slice A xs.length c] ∧ Ints w A xs ∧ xs.length ≤ 140737488351232 ∧ xs.length ≤ c := by
  rcases open_slice1 Try.underlying30 cells_int h with ⟨hcs, _⟩ | ⟨a, len, cap, m, k, V, D, Pl, hcs, _, hl, hm, hmm, hx, hi⟩
  · exact ⟨none, [], 0, by rw [hcs]; rfl, fun h => absurd rfl h, by simp, by simp⟩
  · have hlm : len ≤ m := by rw [hmm]; split <;> omega
    have hall : ∀ i, i < len → ∃ z : Int, w.cell? (a.add i) = some (.int .i64 z) := by
      intro i hi'
      obtain ⟨h1, h2⟩ := hi i (by omega)
      obtain ⟨z, ez, _⟩ := DataW.trod_int Try.underlying3 h2
      exact ⟨z, by rw [h1]; simp at ez; rw [ez]⟩
    have hlist : ∀ k, k ≤ len → ∃ xs : List Int, xs.length = k ∧ ∀ i z, xs[i]? = some z → w.cell? (a.add i) = some (.int .i64 z) := by
      intro k
      induction k with
      | zero => intro _; exact ⟨[], rfl, by simp⟩
      | succ k ih =>
        intro hk
        obtain ⟨xs, hxl, hc⟩ := ih (by omega)
        obtain ⟨z, hz⟩ := hall k (by omega)
        refine ⟨xs ++ [z], by simp [hxl], fun i y hy => ?_⟩
        by_cases hil : i < xs.length
        · rw [List.getElem?_append_left hil] at hy; exact hc i y hy
        · have : i = xs.length := by
            have := (List.getElem?_eq_some_iff.1 hy).1
            simp at this; omega
          subst this
          simp at hy
          subst hy; rw [hxl]; exact hz
    obtain ⟨xs, hxl, hc⟩ := hlist len (Nat.le_refl _)
    have hsz : (len + (m - len)) * 8 ≤ reachBytes := by
      refine hs _ ?_
      rw [hx]
      simp [DataW.weights, Try.underlying30, bytes_int]
    refine ⟨some a, xs, cap, by rw [hcs, hxl], fun hne => ?_, by unfold reachBytes at hsz; omega, by omega⟩
    have hpos := List.length_pos_iff.2 hne
    obtain ⟨b, off, sp⟩ := a
    have h0 := hc 0 xs[0] (List.getElem?_eq_getElem hpos)
    have hsp : sp = none := by simpa [Addr.add] using World.cell?_spot h0
    subst hsp
    refine ⟨b, off, rfl, ?_, fun k x hk => ?_⟩
    · have := World.block_lt_of_cell? w _ h0
      rwa [addr_add'] at this
    · have := hc k x hk
      rwa [addr_add'] at this
set_option maxRecDepth 100000 in
theorem op_read {n : Nat} {cs : List Value} {x : DataW H × List MemPlace} (h : DataW.trod enc Try.prog w base spare held n 63 cs = some x) (hs : ∀ k ∈ x.1.weights Try.prog 63, k ≤ reachBytes) :
    ∃ o : OpV, cs = opCell o ∧ Ints w o.ad o.args ∧ o.args.length ≤ 140737488351232 ∧ o.name.size ≤ 140737488351232 := by
  obtain ⟨xs, m, _, hx, hl, hxl, hf⟩ := DataW.trod_struct Try.underlying63 h
  rw [show Try.prog.cellsOf 63 = 3 by kernel_rfl] at hl
  match cs, hl with
  | [c0, c1, c2], _ =>
    have hc2 : Try.prog.cellsOf 9 = 1 := by kernel_rfl
    have hc3 : Try.prog.cellsOf 30 = 1 := by kernel_rfl
    have h0 : DataW.trod enc Try.prog w base spare held m 3 [c0] = xs[0]? := by
      have h := hf 0 _ rfl
      refine Eq.trans ?_ h
      show _ = DataW.trod enc Try.prog w base spare held m 3 (([c0, c1, c2].drop 0).take (Try.prog.cellsOf 3))
      rw [cells_int]; rfl
    have h1 : DataW.trod enc Try.prog w base spare held m 9 [c1] = xs[1]? := by
      have h := hf 1 _ rfl
      refine Eq.trans ?_ h
      show _ = DataW.trod enc Try.prog w base spare held m 9 (([c0, c1, c2].drop 1).take (Try.prog.cellsOf 9))
      rw [hc2]; rfl
    have h2 : DataW.trod enc Try.prog w base spare held m 30 [c2] = xs[2]? := by
      have h := hf 2 _ rfl
      refine Eq.trans ?_ h
      show _ = DataW.trod enc Try.prog w base spare held m 30 (([c0, c1, c2].drop 2).take (Try.prog.cellsOf 30))
      rw [hc3]; rfl
    have hx3 : xs.length = 3 := by rw [hxl]; rfl
    match xs, hx3 with
    | [x0, x1, x2], _ =>
      simp only [List.getElem?_cons_zero, List.getElem?_cons_succ] at h0 h1 h2
      have hw : ∀ k, k ∈ x1.1.weights Try.prog 9 ∨ k ∈ x2.1.weights Try.prog 30 → k ≤ reachBytes := by
        intro k hk
        refine hs k ?_
        rw [hx]
        simp only [DataW.weights, Try.underlying63, List.map_cons, List.map_nil]
        have e1 : k ∈ DataW.weightsEach Try.prog [3, 9, 30] [x0.1, x1.1, x2.1] := by
          simp only [DataW.weightsEach, List.mem_append, List.not_mem_nil, or_false]
          exact .inr hk
        exact e1
      obtain ⟨a, ea, _⟩ := DataW.trod_int Try.underlying3 h0
      obtain ⟨s, es, exs, _⟩ := DataW.trod_string Try.underlying9 h1
      obtain ⟨A, zs, cc, ec, hI, hzl, _⟩ := ints_read h2 (fun k hk => hw k (.inr hk))
      have hss : s.size ≤ 140737488351232 := by
        have := hw s.size (.inl (by rw [exs]; simp [DataW.weights]))
        unfold reachBytes at this; exact this
      refine ⟨⟨a, s, zs, A, cc⟩, ?_, hI, hzl, hss⟩
      simp at ea es ec
      rw [ea, es, ec]; rfl
set_option maxRecDepth 100000 in
theorem open_ops {W : World} {r : Reach} {b0 : Nat} {v : Value} {d : DataW H} {p : List MemPlace} (hv : Value.okWide Try.prog W r b0 22 v) (h : DataW.Trod enc Try.prog W base spare held 22 v d p) (hs : ∀ k ∈ d.weights Try.prog 22, k ≤ reachBytes) :
    ∃ (A : Option Addr) (c : Nat) (ops : List OpV), v = .slice A ops.length c ∧ OpsAt W A ops ∧ OpsLen ops ∧ ops.length ≤ c := by
  obtain ⟨a0, len0, cap0, rfl⟩ := okWide_slice Try.underlying22 hv
  obtain ⟨fuel, hf⟩ := h
  rcases open_slice Try.underlying22 hf with ⟨hcs, _⟩ | ⟨a, len, cap, m, n, D, Pl, hcs, _, hl, hm, hmm, hx, hi⟩
  · simp [Value.cells] at hcs
    obtain ⟨rfl, rfl, rfl⟩ := hcs
    exact ⟨none, 0, [], rfl, fun h => absurd rfl h, ⟨by simp, by simp⟩, by simp⟩
  · simp [Value.cells] at hcs
    obtain ⟨rfl, rfl, rfl⟩ := hcs
    have hlm : len0 ≤ m := by rw [hmm]; split <;> omega
    have h3 : Try.prog.cellsOf 63 = 3 := by kernel_rfl
    have hd : d = .slice ((List.range len0).map D) ((List.range (m - len0)).map fun j => D (len0 + j)) := by injection hx
    have hsz : (len0 + (m - len0)) * 48 ≤ reachBytes := by
      refine hs _ ?_
      rw [hd]
      simp [DataW.weights, Try.underlying22, bytes_op]
    have hall : ∀ (l : List (DataW H)) (e : DataW H) (k : Nat), e ∈ l → k ∈ e.weights Try.prog 63 → k ∈ DataW.weightsAll Try.prog 63 l := by
      intro l
      induction l with
      | nil => intro e k he; simp at he
      | cons y l ih =>
        intro e k he hk
        simp only [DataW.weightsAll, List.mem_append]
        rcases List.mem_cons.1 he with rfl | he
        · exact .inl hk
        · exact .inr (ih e k he hk)
    have hone : ∀ i, i < len0 → ∃ o : OpV, (Ints W o.ad o.args ∧ o.args.length ≤ 140737488351232 ∧ o.name.size ≤ 140737488351232) ∧ ∀ j u, (opCell o)[j]? = some u → W.cell? (a.add (i * 3 + j)) = some u := by
      intro i hi'
      obtain ⟨cs', hc, ht⟩ := hi i (by omega)
      rw [h3] at hc
      obtain ⟨o, rfl, h4⟩ := op_read ht (fun k hk => hs k (by
        rw [hd]
        have hu : Try.prog.underlying 22 = some (.slice 63) := Try.underlying22
        simp only [DataW.weights, hu, List.mem_cons, List.mem_append]
        exact .inr (.inl (hall _ (D i) k (List.mem_map.2 ⟨i, by simpa using hi', rfl⟩) hk))))
      obtain ⟨_, _, hat⟩ := World.cells?_some hc
      refine ⟨o, h4, fun j u hu => ?_⟩
      have hj : j < 3 := by
        have := (List.getElem?_eq_some_iff.1 hu).1
        simpa [opCell] using this
      have := hat j hj
      rw [Go.Deep.add_add] at this
      rw [this]; exact hu
    have hlist : ∀ k, k ≤ len0 → ∃ ops : List OpV, ops.length = k ∧ (∀ o ∈ ops, Ints W o.ad o.args ∧ o.args.length ≤ 140737488351232 ∧ o.name.size ≤ 140737488351232) ∧ ∀ i (hi : i < ops.length) j u, (opCell ops[i])[j]? = some u → W.cell? (a.add (i * 3 + j)) = some u := by
      intro k
      induction k with
      | zero => intro _; exact ⟨[], rfl, by simp, by simp⟩
      | succ k ih =>
        intro hk
        obtain ⟨ops, hol, hm1, hc⟩ := ih (by omega)
        obtain ⟨o, hom, ho⟩ := hone k (by omega)
        refine ⟨ops ++ [o], by simp [hol], ?_, fun i hi j u hu => ?_⟩
        · intro y hy
          rcases List.mem_append.1 hy with h | h
          · exact hm1 y h
          · simp at h; subst h; exact hom
        · by_cases hj : i < ops.length
          · rw [List.getElem_append_left hj] at hu; exact hc i hj j u hu
          · have he : i = ops.length := by simp at hi; omega
            subst he
            simp at hu
            rw [hol]; exact ho j u hu
    obtain ⟨ops, hol, hm1, hc⟩ := hlist len0 (Nat.le_refl _)
    subst hol
    refine ⟨some a, cap0, ops, rfl, fun hne => ?_, ⟨by unfold reachBytes at hsz; omega, fun o ho => (hm1 o ho).2⟩, by omega⟩
    obtain ⟨b, off, sp⟩ := a
    have hpos := List.length_pos_iff.2 hne
    have h0 := hc 0 hpos 0 _ rfl
    have hsp : sp = none := by simpa [Addr.add] using World.cell?_spot h0
    subst hsp
    refine ⟨b, off, rfl, ?_, fun k hk => ?_⟩
    · have := World.block_lt_of_cell? W _ h0
      rwa [addr_add'] at this
    · have e0 := hc k hk 0 _ rfl
      have e1 := hc k hk 1 _ rfl
      have e2 := hc k hk 2 _ rfl
      rw [addr_add'] at e0 e1 e2
      exact ⟨e0, e1, e2, (hm1 _ (List.getElem_mem hk)).1⟩
set_option maxRecDepth 100000 in
theorem open_ints {W : World} {r : Reach} {b0 : Nat} {v : Value} {d : DataW H} {p : List MemPlace} (hv : Value.okWide Try.prog W r b0 30 v) (h : DataW.Trod enc Try.prog W base spare held 30 v d p) (hs : ∀ k ∈ d.weights Try.prog 30, k ≤ reachBytes) :
    ∃ (A : Option Addr) (c : Nat) (xs : List Int), v = .slice A xs.length c ∧ Ints W A xs ∧ xs.length ≤ 140737488351232 := by
  obtain ⟨a0, len0, cap0, rfl⟩ := okWide_slice Try.underlying30 hv
  obtain ⟨fuel, hf⟩ := h
  obtain ⟨A, xs, c, e, h1, h2, _⟩ := ints_read hf hs
  simp [Value.cells] at e
  obtain ⟨rfl, rfl, rfl⟩ := e
  exact ⟨_, _, xs, rfl, h1, h2⟩
theorem sized_all {ts : List TypeId} {ds : List (DataW H)} (h : (DataW.weightsEach Try.prog ts ds).all (· ≤ reachBytes) = true) {j : Nat} {t : TypeId} {d : DataW H} (ht : ts[j]? = some t) (hd : ds[j]? = some d) : ∀ k ∈ d.weights Try.prog t, k ≤ reachBytes := fun k hk => by
  have := List.all_eq_true.1 h _ (DataW.weights_mem_each ht hd k hk)
  simpa using this
end
end Go.Proofs.Ytafpbdmggnfdnaa
