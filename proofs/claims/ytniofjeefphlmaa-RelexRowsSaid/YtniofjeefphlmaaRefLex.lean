/- The contract of the reference's Lex. -/
import Derived.Test.YtniofjeefphlmaaOne2
namespace Go.Proofs.Ytniofjeefphlmaa
open Go.RowKit
set_option linter.unusedVariables false

theorem wordKindL_pos (l : Bs) : wordKindL l ≠ 0 := by unfold wordKindL; (repeat' split) <;> decide
theorem nm_first (c : UInt8) (h : (smallB c.toNat || (c.toNat : Int) == 95) = true ∨ greatB c.toNat = true) : nm true c = true := by
  unfold nm nameB
  rcases h with h | h
  · revert h; cases smallB c.toNat <;> simp
    intro h; simp [h]
  · simp [h]
theorem tok_zero (l : Bs) : (tokenL l).1 = 0 ↔ (tokenL l).2 = 0 := by
  rcases l with _ | ⟨c, r⟩
  · simp [tokenL]
  · simp only [tokenL]
    split
    · rename_i h
      have := nm_first c (.inl h)
      simp [wordKindL_pos, runL_cons, this]
    · split
      · rename_i h
        have := nm_first c (.inr h)
        simp [runL_cons, this]
      · split
        · simp
        · split
          · rcases r with _ | ⟨d, r⟩
            · simp
            · dsimp only
              split
              · simp
              · simp
          · split
            · simp; omega
            · simp
theorem opens_tok (l : Bs) (h : opensL l = true) : 0 < (tokenL l).2 := by
  rcases l with _ | ⟨c, _ | ⟨d, r⟩⟩
  · simp [opensL] at h
  · simp [opensL] at h
  · simp [opensL] at h
    have hc : c = 40 := by rw [← UInt8.toNat_inj]; have := h.1; simp; omega
    have hd : d = 42 := by rw [← UInt8.toNat_inj]; have := h.2; simp; omega
    subst hc hd
    simp [tokenL, smallB, greatB, digitB, signL, sign1B, sign2B]
theorem noL_at' (s : ByteArray) (k : Nat) (h : k < s.size) : noL (s.toList.drop k) = if whiteB (byt s k) || !((tokenL (s.toList.drop k)).1 == 0) then 0 else 1 + noL (s.toList.drop (k + 1)) := by
  rw [noL_at s k h]
  have h1 := tok_zero (s.toList.drop k)
  have h2 := opens_tok (s.toList.drop k)
  congr 1
  rw [Bool.eq_iff_iff]
  simp only [Bool.or_eq_true, decide_eq_true_eq, Bool.not_eq_true', beq_eq_false_iff_ne, ne_eq, h1]
  simp
  constructor
  · rintro ((h | h) | h)
    · exact .inl h
    · have := h2 h; right; omega
    · right; omega
  · rintro (h | h)
    · exact .inl (.inl h)
    · right; omega

theorem remE_eq (s : ByteArray) (k : Nat) : remE s k = if (remL (s.toList.drop k) 0 0).2 then k + (remL (s.toList.drop k) 0 0).1 else 0 := rfl
theorem own_below {w w' : World} {base : Nat} {e : TypeId} {size n : Nat} {v : Value} {xs : List Value} (h : w.ownsRow base e size v n xs) (hb : Below w.heap.size w w') : w'.ownsRow base e size v n xs :=
  h.kept (row := none) ⟨hb.os, hb.tape, hb.output, hb.size, fun i hi _ => hb.block i hi⟩ (by cases v.ownBlock <;> simp)
theorem LexRel.below' {s : ByteArray} {w wr w1 : World} {v : Value} {k : Nat} {done : List Tk} (h : LexRel s w v k done wr) (hb : Below wr.heap.size wr w1) : LexRel s w v k done w1 :=
  ⟨h.le, h.eq, h.len, own_below h.own hb, h.below.trans (hb.mono h.below.size)⟩

set_option maxHeartbeats 4000000 in
theorem rlex_any (s : ByteArray) (w : World) (hs : s.size ≤ 1000000) :
    Calls Try.prog 17 #[.string s] w fun e w' => ∃ v, e = .returned v ∧ w'.ownsRow w.heap.size 28 3 v (lx s.toList 0).length (cellsOf (lx s.toList 0)) ∧ Below w.heap.size w w' := by
  obtain ⟨i0, hi, hz0, hz1, hz2⟩ := info_parts tokInfo
  have Hi := hide hi; have Hz0 := hide hz0; have Hz1 := hide hz1; have Hz2 := hide hz2; clear hi hz0 hz1 hz2
  have HAt : Hid (∀ j, atB s j ⟨#[40, 42]⟩ = opensL (s.toList.drop j)) := atB_opens s
  go_enter Try.func17, Try.ntmps17
  go_wp2
  go_loopw [3, 4] (fun v a wr => ∃ k done, a = .int .i64 (k : Nat) ∧ LexRel s w v k done wr) (fun _ a _ => s.size - (intOf a).toNat)
  case atStart =>
    exact ⟨0, [], rfl, ⟨Nat.zero_le _, by simp, by simp, ⟨by simp [cellsOf], .inr ⟨w.heap.size, 0, #[], rfl, Nat.le_refl _, heap_alloc_new w _, by simp, by simp [maxLen], by simp, by simp [cellsOf]⟩⟩, (Below.refl _ _).alloc (Nat.le_refl _) _⟩⟩
  case round =>
    obtain ⟨k, done, rfl, HR⟩ := hrel
    have hkl := HR.len
    have hkm := HR.le
    by_cases hlt : k < s.size
    · have e1 := byt_eq s k hlt
      have HW := hide (lx_at_white s k hlt)
      have HRm := hide (lx_at_remark s k hlt)
      have HOp := hide (lx_at_open s k hlt)
      have HPc := hide (lx_at_piece s k hlt)
      have HPa := hide (pieceL_at s k hlt)
      have hpl := pieceL_at_le s k hlt
      have hrl := (remL_ge (s.toList.drop k) 0 0).2
      rw [List.length_drop, size_toList] at hrl
      have HRp := hide (remL_pos (s.toList.drop k))
      have HRn := hide (remL_not (s.toList.drop k) 0 0)
      rw [List.length_drop, size_toList] at HRn
      have HE0 := hide (remE_eq s k)
      have htz := tok_zero (s.toList.drop k)
      generalize byt s k = x at *
      generalize hM : remL (s.toList.drop k) 0 0 = M at *
      have HM := hide hM; clear hM
      generalize hT : tokenL (s.toList.drop k) = T at *
      have HT := hide hT; clear hT
      generalize hO : opensL (s.toList.drop k) = O at *
      have HO := hide hO; clear hO
      generalize hP : pieceL (s.toList.drop k) = P at *
      have HP := hide hP; clear hP
      obtain ⟨t1, t2⟩ := T
      obtain ⟨p1, p2⟩ := P
      obtain ⟨m1, m2⟩ := M
      simp only at hpl hrl htz
      cases hw : whiteB x
      · cases O
        · rcases Nat.eq_zero_or_pos t2 with ht | ht
          · obtain rfl : t1 = 0 := htz.2 ht
            subst ht
            have hp := HPa.out
            rw [if_pos rfl] at hp
            simp only [Prod.mk.injEq] at hp
            obtain ⟨rfl, rfl⟩ := hp
            have HE := hide (HPc.out hw rfl)
            clear HPa HPc HOp HRm HW htz HP
            go_wp2_with (first | (go_at_call 36; refine (rwhite_any _ _).mono ?_; rintro e w' ⟨rfl, rfl⟩) | (go_at_call 37; refine (at_any _ _ _ _ (by omega) (by omega) hs (by decide)).mono ?_; rintro e w' ⟨rfl, rfl⟩; rw [Int.toNat_natCast, HAt.out, HO.out]) | (go_at_call 39; refine (one_any _ _ _ (by omega) (by omega) hs).mono ?_; rintro e w1 ⟨rfl, hb1⟩; rw [Int.toNat_natCast, HT.out]; have HR1 := HR.below' hb1))
            obtain ⟨wo, rfl⟩ : ∃ wo : World, wo = wr := ⟨_, rfl⟩
            go_loopw [7] (fun v wr => ∃ j : Nat, k + 1 ≤ j ∧ j ≤ s.size ∧ v = .int .i64 j ∧ Hid (k + 1 + noL (s.toList.drop (k + 1)) = j + noL (s.toList.drop j)) ∧ LexRel s w u3 k done wr) (fun v _ => s.size - (intOf v).toNat)
            case atStart => exact ⟨k + 1, Nat.le_refl _, by omega, by go_num, rfl, HR1⟩
            case round =>
              obtain ⟨j, hkj, hj, rfl, HI, HR2⟩ := hrel
              clear e1
              by_cases hltj : j < s.size
              · have e2 := byt_eq s j hltj
                have HS := hide (noL_at' s j hltj)
                generalize byt s j = y at *
                generalize hTj : tokenL (s.toList.drop j) = Tj at *
                have HTj := hide hTj; clear hTj
                obtain ⟨tj1, tj2⟩ := Tj
                cases hwy : whiteB y
                · cases htj : (tj1 == 0)
                  · have HZ : Hid (k + 1 + noL (s.toList.drop (k + 1)) = j) := hide (by rw [HI.out, HS.out, if_pos (by simp [hwy, htj])]; rfl)
                    have htj' : (tj1 != 0) = true := by simpa [bne] using htj
                    clear htj
                    go_wp2_with (first | (go_at_call 36; refine (rwhite_any _ _).mono ?_; rintro e w' ⟨rfl, rfl⟩) | (go_at_call 39; refine (one_any _ _ _ (by omega) (by omega) hs).mono ?_; rintro e w2 ⟨rfl, hb2⟩; rw [Int.toNat_natCast, HTj.out]; have HR3 := HR2.below' hb2) | (at_builtin; refine wpList_append_own _ rfl (.tmp 68) (.tmp 73) 24 rfl w.heap.size 28 i0 _ 3 24 Try.underlying24 Hi.out Hz0.out Hz1.out Hz2.out rfl (by decide) _ done.length (cellsOf done) rfl (HR3.own.alloc _) ⟨w2.heap.size, 0, none⟩ 1 1 [.int .i64 7, .int .i64 k, .int .i64 (j : Int)] rfl rfl (cell_three_new _ _ _ _ _) (by intro u hu; simp at hu; rcases hu with rfl | rfl | rfl <;> rfl) (by unfold maxLen; omega) (by omega) (by have := HR3.below.size; simp; omega) ?_; intro v' w9 hown hgrow hnil))
                    have HR9 := HR3.push (7, (k : Int), (j : Int)) (by simpa [cell3] using hown) hgrow (k1 := j) (by omega) hj (by rw [HE.out]; have hz := HZ.out; rw [show k + (1 + noL (s.toList.drop (k + 1))) = j by omega]; simp only [Prod.mk.injEq, List.cons.injEq, and_true, true_and]; omega)
                    go_roundw
                    case rel => exact ⟨j, _, rfl, HR9⟩
                    case measure => simp [intOf]; omega
                  · obtain rfl : tj1 = 0 := by simpa using htj
                    clear htj
                    go_wp2_with (first | (go_at_call 36; refine (rwhite_any _ _).mono ?_; rintro e w' ⟨rfl, rfl⟩) | (go_at_call 39; refine (one_any _ _ _ (by omega) (by omega) hs).mono ?_; rintro e w2 ⟨rfl, hb2⟩; rw [Int.toNat_natCast, HTj.out]; have HR3 := HR2.below' hb2))
                    go_roundw
                    case rel => exact ⟨j + 1, by omega, by omega, by go_num, hide (by rw [HI.out, HS.out, if_neg (by simp [hwy])]; omega), HR3⟩
                    case measure => simp [intOf]; omega
                · have HZ : Hid (k + 1 + noL (s.toList.drop (k + 1)) = j) := hide (by rw [HI.out, HS.out, if_pos (by simp [hwy])]; rfl)
                  go_wp2_with (first | (go_at_call 36; refine (rwhite_any _ _).mono ?_; rintro e w' ⟨rfl, rfl⟩) | (at_builtin; refine wpList_append_own _ rfl (.tmp 68) (.tmp 73) 24 rfl w.heap.size 28 i0 _ 3 24 Try.underlying24 Hi.out Hz0.out Hz1.out Hz2.out rfl (by decide) _ done.length (cellsOf done) rfl (HR2.own.alloc _) ⟨wr.heap.size, 0, none⟩ 1 1 [.int .i64 7, .int .i64 k, .int .i64 (j : Int)] rfl rfl (cell_three_new _ _ _ _ _) (by intro u hu; simp at hu; rcases hu with rfl | rfl | rfl <;> rfl) (by unfold maxLen; omega) (by omega) (by have := HR2.below.size; simp; omega) ?_; intro v' w9 hown hgrow hnil))
                  have HR9 := HR2.push (7, (k : Int), (j : Int)) (by simpa [cell3] using hown) hgrow (k1 := j) (by omega) hj (by rw [HE.out]; have hz := HZ.out; rw [show k + (1 + noL (s.toList.drop (k + 1))) = j by omega]; simp only [Prod.mk.injEq, List.cons.injEq, and_true, true_and]; omega)
                  go_roundw
                  case rel => exact ⟨j, _, rfl, HR9⟩
                  case measure => simp [intOf]; omega
              · have HZ : Hid (k + 1 + noL (s.toList.drop (k + 1)) = j) := hide (by rw [HI.out, noL_end s j (by omega)]; rfl)
                go_wp2_with (first | (go_at_call 36; refine (rwhite_any _ _).mono ?_; rintro e w' ⟨rfl, rfl⟩) | (at_builtin; refine wpList_append_own _ rfl (.tmp 68) (.tmp 73) 24 rfl w.heap.size 28 i0 _ 3 24 Try.underlying24 Hi.out Hz0.out Hz1.out Hz2.out rfl (by decide) _ done.length (cellsOf done) rfl (HR2.own.alloc _) ⟨wr.heap.size, 0, none⟩ 1 1 [.int .i64 7, .int .i64 k, .int .i64 (j : Int)] rfl rfl (cell_three_new _ _ _ _ _) (by intro u hu; simp at hu; rcases hu with rfl | rfl | rfl <;> rfl) (by unfold maxLen; omega) (by omega) (by have := HR2.below.size; simp; omega) ?_; intro v' w9 hown hgrow hnil))
                have HR9 := HR2.push (7, (k : Int), (j : Int)) (by simpa [cell3] using hown) hgrow (k1 := j) (by omega) hj (by rw [HE.out]; have hz := HZ.out; rw [show k + (1 + noL (s.toList.drop (k + 1))) = j by omega]; simp only [Prod.mk.injEq, List.cons.injEq, and_true, true_and]; omega)
                go_roundw
                case rel => exact ⟨j, _, rfl, HR9⟩
                case measure => simp [intOf]; omega
          · have ht1 : ¬ t1 = 0 := by intro h; have := htz.1 h; omega
            have hp := HPa.out
            rw [if_neg (show ¬ t2 = 0 by omega)] at hp
            simp only [Prod.mk.injEq] at hp
            obtain ⟨rfl, rfl⟩ := hp
            have HE := hide (HPc.out hw rfl)
            clear HPa HPc HOp HRm HW htz
            have ht0 : (p1 == 0) = false := by simpa using ht1
            have hone : oneE k (p1, p2) = k + p2 := by unfold oneE; rw [if_neg (by simp only; omega)]
            go_wp2_with (first | (go_at_call 36; refine (rwhite_any _ _).mono ?_; rintro e w' ⟨rfl, rfl⟩) | (go_at_call 37; refine (at_any _ _ _ _ (by omega) (by omega) hs (by decide)).mono ?_; rintro e w' ⟨rfl, rfl⟩; rw [Int.toNat_natCast, HAt.out, HO.out]) | (go_at_call 39; refine (one_any _ _ _ (by omega) (by omega) hs).mono ?_; rintro e w1 ⟨rfl, hb1⟩; rw [Int.toNat_natCast, HT.out]; have HR1 := HR.below' hb1) | (at_builtin; refine wpList_append_own _ rfl (.tmp 68) (.tmp 73) 24 rfl w.heap.size 28 i0 _ 3 24 Try.underlying24 Hi.out Hz0.out Hz1.out Hz2.out rfl (by decide) _ done.length (cellsOf done) rfl (HR1.own.alloc _) ⟨w1.heap.size, 0, none⟩ 1 1 [.int .i64 p1, .int .i64 k, .int .i64 ((k : Int) + p2)] rfl rfl (cell_three_new _ _ _ _ _) (by intro u hu; simp at hu; rcases hu with rfl | rfl | rfl <;> rfl) (by unfold maxLen; omega) (by omega) (by have := HR1.below.size; simp; omega) ?_; intro v' w9 hown hgrow hnil))
            have HR2 := HR1.push (p1, (k : Int), (k : Int) + p2) (by simpa [cell3] using hown) hgrow (k1 := k + p2) (by omega) hpl HE.out
            go_roundw
            case rel => exact ⟨k + p2, _, by go_num, HR2⟩
            case measure => simp [intOf]; omega
        · have hrp := HRp.out rfl 0 0
          rw [HM.out] at hrp
          simp only at hrp
          cases m2
          · have HE := hide (HOp.out hw rfl rfl)
            have hrn := HRn.out rfl
            simp only at hrn
            rw [if_neg (by simp)] at HE0
            clear HPa HPc HOp HRm HW HRn
            have hsz : (k : Int) + m1 = s.size := by omega
            have HSZ := hide hsz; clear hsz hrn
            go_wp2_with (first | (go_at_call 36; refine (rwhite_any _ _).mono ?_; rintro e w' ⟨rfl, rfl⟩) | (go_at_call 37; refine (at_any _ _ _ _ (by omega) (by omega) hs (by decide)).mono ?_; rintro e w' ⟨rfl, rfl⟩; rw [Int.toNat_natCast, HAt.out, HO.out]) | (go_at_call 38; refine (rremark_at s k _ (by omega) hs).mono ?_; rintro e w' ⟨rfl, rfl⟩; rw [HE0.out]) | (at_builtin; refine wpList_append_own _ rfl (.tmp 29) (.tmp 34) 24 rfl w.heap.size 28 i0 _ 3 24 Try.underlying24 Hi.out Hz0.out Hz1.out Hz2.out rfl (by decide) _ done.length (cellsOf done) rfl (HR.own.alloc _) ⟨wr.heap.size, 0, none⟩ 1 1 [.int .i64 7, .int .i64 k, .int .i64 s.size] rfl rfl (cell_three_new _ _ _ _ _) (by intro u hu; simp at hu; rcases hu with rfl | rfl | rfl <;> rfl) (by unfold maxLen; omega) (by omega) (by have := HR.below.size; simp; omega) ?_; intro v' w9 hown hgrow hnil))
            have HR1 := HR.push (k1 := s.size) (7, (k : Int), (s.size : Int)) (by simpa [cell3] using hown) hgrow hlt (Nat.le_refl _) (by rw [HE.out, List.drop_of_length_le (i := s.size) (by rw [size_toList]; omega), lx_nil, ← HSZ.out]; simp)
            go_ret
            have h := HR1.eq
            rw [List.drop_of_length_le (i := s.size) (by rw [size_toList]; omega), lx_nil, List.append_nil] at h
            rw [h]
            exact ⟨_, rfl, HR1.own, HR1.below⟩
          · have HE := hide (HRm.out hw rfl rfl)
            rw [if_pos rfl] at HE0
            have hnz : (((k + m1 : Nat) : Int) == 0) = false := by simp; omega
            clear HPa HPc HOp HRm HW HRn
            go_wp2_with (first | (go_at_call 36; refine (rwhite_any _ _).mono ?_; rintro e w' ⟨rfl, rfl⟩) | (go_at_call 37; refine (at_any _ _ _ _ (by omega) (by omega) hs (by decide)).mono ?_; rintro e w' ⟨rfl, rfl⟩; rw [Int.toNat_natCast, HAt.out, HO.out]) | (go_at_call 38; refine (rremark_at s k _ (by omega) hs).mono ?_; rintro e w' ⟨rfl, rfl⟩; rw [HE0.out]))
            go_roundw
            case rel => exact ⟨k + m1, done, by go_num, ⟨by omega, by rw [HR.eq, HE.out], by omega, HR.own, HR.below⟩⟩
            case measure => simp [intOf]; omega
      · have HWE := hide (HW.out hw)
        clear HW HRm HOp HPc HPa
        go_wp2_with (first | (go_at_call 36; refine (rwhite_any _ _).mono ?_; rintro e w' ⟨rfl, rfl⟩))
        go_roundw
        case rel => exact ⟨k + 1, done, by go_num, ⟨by omega, by rw [HR.eq, HWE.out], by omega, HR.own, HR.below⟩⟩
        case measure => simp [intOf]; omega
    · go_wp2
      go_ret
      have h := HR.eq
      rw [List.drop_of_length_le (i := k) (by rw [size_toList]; omega), lx_nil, List.append_nil] at h
      rw [h]
      exact ⟨_, rfl, HR.own, HR.below⟩
end Go.Proofs.Ytniofjeefphlmaa
