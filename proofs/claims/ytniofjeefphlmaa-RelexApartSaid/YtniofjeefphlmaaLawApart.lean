/- The walk of the law RelexApart. -/
import Derived.Test.YtniofjeefphlmaaLawSpans
import Derived.Test.YtniofjeefphlmaaPlainApart
import Derived.IntWalk
namespace Go.Proofs.Ytniofjeefphlmaa
open Go.RowKit
set_option linter.unusedVariables false

theorem sep_two (s : ByteArray) : ∀ t ∈ lx s.toList 0, sepB s t = true → t.2.2 = t.2.1 + 2 := by
  intro t ht h
  have hm := lx_mem s.toList t ht
  rw [size_toList] at hm
  unfold sepB isB at h
  rw [Bool.and_eq_true] at h
  have h2 := h.2
  rw [beq_iff_eq, show (ByteArray.mk #[59, 59]).toList = [59, 59] from ByteArray.toList_mk [59, 59]] at h2
  have h3 := congrArg List.length h2
  rw [size_toList] at h3
  unfold wordB at h3
  rw [if_neg (by omega)] at h3
  simp at h3
  omega

set_option maxRecDepth 100000 in
set_option maxHeartbeats 4000000 in
theorem relexApart_walk (s : ByteArray) (w : World) (hs : s.size ≤ maxLen) :
    Calls Try.prog 13 #[.string s] w fun e w' => e = .returned (.bool true) ∧ Below w.heap.size w w' := by
  unfold maxLen at hs
  by_cases hb : 20000 < s.size
  · go_enter Try.func13, Try.ntmps13
    go_wp2_with (go_at_call 24; refine (alive9_any _).mono ?_; rintro e w1 ⟨rfl, hb1⟩)
    go_ret
    exact ⟨rfl, hb1⟩
  · have hs1 : s.size ≤ 20000 := by omega
    have hn := lx_length s.toList 0
    rw [size_toList] at hn
    have hdb : decide ((20000 : Int) < (s.size : Int)) = false := by simp; omega
    have hsl := spans_len (sepB s) (lx s.toList 0)
    have HSO := hide (span_of s.toList (sepB s) (lx s.toList 0) (whole_lx _) (sep_two s))
    have HFi := hide (spans_fine s.toList (sepB s) (lx s.toList 0) (whole_lx _) (sep_two s))
    have HG := hide (rows_grow (sepB s) (lx s.toList 0))
    have HL := hide (fun W => lex_any s W (by omega))
    generalize lx s.toList 0 = xs at *
    obtain ⟨ps, hps⟩ : ∃ ps, spans (sepB s) xs = ps := ⟨_, rfl⟩
    rw [hps] at HSO HFi hsl
    have Hps := hide hps; clear hps
    go_enter Try.func13, Try.ntmps13
    go_wp2_with fail
    refine (alive9_any _).mono ?_
    rintro e w1 ⟨rfl, hb1⟩
    go_wp2_with fail
    refine (HL.out _).mono ?_
    rintro e w2 ⟨v2, rfl, hown2, hb2⟩
    obtain ⟨A, c, rfl, ha⟩ := Toks.of_own hown2
    go_wp2_with fail
    refine (spans_any s A c xs _ w2 ha (Nat.le_refl _) (by omega) (by omega)).mono ?_
    rintro e w3 ⟨v3, rfl, hown3, hb3⟩
    rw [Hps.out] at hown3
    obtain ⟨Q, d, rfl, hq⟩ := Sps.of_own hown3
    have ha3 := ha.below hb3
    have h23 := hb3.size
    have HB0 : Hid (Below w.heap.size w w3) := hide (hb1.trans ((hb2.mono hb1.size).trans (hb3.mono (by have := hb1.size; have := hb2.size; omega))))
    clear hown2 hown3 hb1 hb2 hb3 ha HL
    go_wp2
    go_loopw [5, 6] (fun vk vi wr => ∃ i k : Nat, i ≤ xs.length ∧ vi = .int .i64 i ∧ vk = .int .i64 k ∧ k ≤ (spFold (sepB s) (xs.take i)).rows.length ∧ Below w3.heap.size w3 wr) (fun _ vi _ => xs.length - (intOf vi).toNat)
    case atStart => exact ⟨0, 0, by omega, rfl, rfl, by omega, Below.refl _ _⟩
    case round =>
      obtain ⟨i, k, hi, rfl, rfl, hk, HB⟩ := hrel
      by_cases hlt : i < xs.length
      · have hgr := HG.out i hlt
        obtain ⟨b, o, rfl, hblk, a1, a2, a3⟩ := (ha3.below (HB.mono h23)).at_ i hlt
        have hq' := hq.below HB
        have hso := HSO.out i hlt
        obtain ⟨X, hX⟩ : ∃ X, xs[i] = X := ⟨_, rfl⟩
        rw [hX] at a1 a2 a3 hso
        clear hX
        obtain ⟨x1, x2, x3⟩ := X
        simp only at a1 a2 a3 hso
        obtain ⟨N0, hN0⟩ : ∃ N0, (spFold (sepB s) (xs.take i)).rows.length = N0 := ⟨_, rfl⟩
        rw [hN0] at hk hgr hso
        clear hN0
        obtain ⟨P, hP⟩ : ∃ P, isB s x1 x2 x3 ⟨#[59, 59]⟩ = P := ⟨_, rfl⟩
        have HSP := hide hP
        have HST : Hid (sepB s (x1, x2, x3) = P) := hide hP
        clear hP
        cases P
        · obtain ⟨⟨p1, p2⟩, hp, hp1, hp2, hpk⟩ := hso HST.out
          simp only at hp1 hp2
          have hN : N0 < ps.length := (List.getElem?_eq_some_iff.1 hp).1
          have Hpk := hide hpk; clear hpk hso
          have Hp := hide hp; clear hp
          go_wp2_with (go_at_call 21; refine (is_any _ _ _ _ _ _ (by omega)).mono ?_; rintro e w4 ⟨rfl, hb4⟩; rw [HSP.out])
          have hb04 : Below w3.heap.size w3 w4 := HB.trans (hb4.mono HB.size)
          have hq4 := hq.below hb04
          have d2 : w4.cell? ⟨b, o + i * 3 + 1, none⟩ = some (.int .i64 x2) := by rw [hb4.cell (p := ⟨b, _, none⟩) (Nat.lt_of_lt_of_le hblk (Nat.le_trans h23 HB.size))]; exact a2
          have d3 : w4.cell? ⟨b, o + i * 3 + 2, none⟩ = some (.int .i64 x3) := by rw [hb4.cell (p := ⟨b, _, none⟩) (Nat.lt_of_lt_of_le hblk (Nat.le_trans h23 HB.size))]; exact a3
          have HB04 := hide hb04
          clear hb4 hb04 a1 a2 a3 hq' HB
          go_loopw [5] (fun vk wr => ∃ k q : Nat, k ≤ N0 ∧ vk = .int .i64 k ∧ wr = w4.drewN q) (fun vk _ => N0 - (intOf vk).toNat)
          case atStart => exact ⟨k, 0, hk, rfl, rfl⟩
          case round =>
            obtain ⟨m, q, hm, rfl, rfl⟩ := hrel
            obtain ⟨b5, o5, rfl, _, g1, g2⟩ := hq4.at_ m (by omega)
            have hml : decide (m < ps.length) = true := by simp; omega
            have hml2 : (m : Int) < (ps.length : Int) := by omega
            by_cases hmN : m < N0
            · obtain ⟨⟨q1, q2⟩, hqe, hq2⟩ := Hpk.out m hmN
              have e5 : ps[m]'(by omega) = (q1, q2) := by rw [List.getElem?_eq_getElem (by omega)] at hqe; injection hqe
              rw [e5] at g1 g2
              simp only at g1 g2 hq2
              clear hqe e5
              have hdl : decide (q2 < x3) = true := by simp; exact hq2
              go_wp2
              go_quiet (fail)
              go_wp2
              go_roundw
              case rel => exact ⟨m + 1, q + nq, by omega, by go_num, rfl⟩
              case measure => simp [intOf]; omega
            · obtain rfl : m = N0 := by omega
              have e5 : ps[m]'(by omega) = (p1, p2) := by have := Hp.out; rw [List.getElem?_eq_getElem (by omega)] at this; injection this
              rw [e5] at g1 g2
              simp only at g1 g2
              clear e5
              have hdl : decide (p2 < x3) = false := by simp; omega
              have hne : ((m : Int) == (ps.length : Int)) = false := by simp; omega
              have hgt : decide (x2 < p1) = false := by simp; omega
              go_wp2
              go_quiet (fail)
              go_wp2
              go_quiet (fail)
              go_wp2
              go_roundw
              case rel => exact ⟨i + 1, m, by omega, by go_num, rfl, by omega, below_drewN HB04.out _⟩
              case measure => simp [intOf]; omega
        · clear hso
          go_wp2_with (go_at_call 21; refine (is_any _ _ _ _ _ _ (by omega)).mono ?_; rintro e w4 ⟨rfl, hb4⟩; rw [HSP.out])
          go_roundw
          case rel => exact ⟨i + 1, k, by omega, by go_num, rfl, by omega, HB.trans (hb4.mono HB.size)⟩
          case measure => simp [intOf]; omega
      · have hq' := hq.below HB
        have HB9 := hide (HB0.out.trans (HB.mono HB0.out.size))
        clear hk HB hq ha3 HSO HG
        obtain ⟨wo, rfl⟩ : ∃ wo : World, wo = wr := ⟨_, rfl⟩
        obtain ⟨hfine, hgap⟩ := HFi.out
        have Hgap := hide hgap; have Hfine := hide hfine
        clear hgap hfine HFi
        go_wp2
        go_loopw [7] (fun vi wr => ∃ j q : Nat, j ≤ ps.length ∧ vi = .int .i64 j ∧ wr = wo.drewN q) (fun vi _ => ps.length - (intOf vi).toNat)
        case atStart => exact ⟨0, 0, by omega, rfl, rfl⟩
        case round =>
          obtain ⟨j, q, hj, rfl, rfl⟩ := hrel
          by_cases hjl : j < ps.length
          · obtain ⟨b5, o5, rfl, _, g1, g2⟩ := hq'.at_ j hjl
            obtain ⟨f1, f2, f3⟩ := Hfine.out _ (List.getElem_mem hjl)
            rw [size_toList] at f3
            have hpw : ∀ h : 0 < j, (ps[j - 1]'(by omega)).2 + 2 ≤ ps[j].1 := fun h => (List.pairwise_iff_getElem.1 Hgap.out) (j - 1) j (by omega) hjl (by omega)
            rcases Nat.eq_zero_or_pos j with hj0 | hj0
            · subst hj0
              clear hpw
              obtain ⟨Y, hY⟩ : ∃ Y, ps[0] = Y := ⟨_, rfl⟩
              rw [hY] at g1 g2 f1 f2 f3
              clear hY
              obtain ⟨y1, y2⟩ := Y
              simp only at g1 g2 f1 f2 f3
              simp only [Nat.zero_mul, Nat.add_zero] at g1 g2
              have k1 : decide (y1 < 0) = false := by simp; omega
              have k2 : decide (y2 ≤ y1) = false := by simp; omega
              have k3 : decide ((s.size : Int) < y2) = false := by simp; omega
              go_wp2
              go_quiet (fail)
              go_wp2
              go_roundw
              case rel => exact ⟨1, q + nq, by omega, by go_num, rfl⟩
              case measure => simp [intOf]; omega
            · obtain ⟨b6, o6, e6, _, m1, m2⟩ := hq'.at_ (j - 1) (by omega)
              injection e6 with e6
              injection e6 with e61 e62 e63
              subst e61 e62
              have hpw' := hpw hj0
              clear hpw
              obtain ⟨Y, hY⟩ : ∃ Y, ps[j] = Y := ⟨_, rfl⟩
              rw [hY] at g1 g2 f1 f2 f3 hpw'
              clear hY
              obtain ⟨y1, y2⟩ := Y
              have hfz := Hfine.out _ (List.getElem_mem (show j - 1 < ps.length by omega))
              obtain ⟨Z, hZ⟩ : ∃ Z, ps[j - 1]'(by omega) = Z := ⟨_, rfl⟩
              rw [hZ] at m1 m2 hpw' hfz
              clear hZ
              obtain ⟨z1, z2⟩ := Z
              simp only at g1 g2 f1 f2 f3 m1 m2 hpw' hfz
              obtain ⟨f4, f5, f6⟩ := hfz
              rw [size_toList] at f6
              have k1 : decide (y1 < 0) = false := by simp; omega
              have k2 : decide (y2 ≤ y1) = false := by simp; omega
              have k3 : decide ((s.size : Int) < y2) = false := by simp; omega
              have k4 : decide (0 < j) = true := by simp; omega
              have k5 : decide ((0 : Int) < (j : Int)) = true := by simp; omega
              have k6 : decide (y1 < z2 + 2) = false := by simp; omega
              have n1 : (0 : Int) ≤ (j : Int) - 1 := by omega
              have n2 : (j : Int) - 1 < (ps.length : Int) := by omega
              have n3 : 1 ≤ j := hj0
              have hw1 : IntKind.i64.wrap ((j : Int) - 1) = (j : Int) - 1 := IntWalk.i64_in _ (by omega)
              have hw2 : IntKind.i64.wrap (z2 + 2) = z2 + 2 := IntWalk.i64_in _ (by omega)
              have hw3 : ((j : Int) - 1).toNat = j - 1 := by omega
              go_wp2
              go_quiet (fail)
              clear hw1 hw2 hw3
              go_wp2
              go_roundw
              case rel => exact ⟨j + 1, q + nq, by omega, by go_num, rfl⟩
              case measure => simp [intOf]; omega
          · go_wp2
            go_ret
            exact ⟨rfl, below_drewN HB9.out _⟩
end Go.Proofs.Ytniofjeefphlmaa
