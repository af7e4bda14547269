/- Part 10 of the proof of UnifyMeets: what follows was kept as these texts: Ref, One, One2, RefLex, WordsRef. -/
import Derived.Test.YtafpbdmggnfdnaaUnifyMeetsPt1
import Derived.Test.YtafpbdmggnfdnaaUnifyMeetsPt2
import Derived.Test.YtafpbdmggnfdnaaUnifyMeetsPt3
import Derived.Test.YtafpbdmggnfdnaaUnifyMeetsPt4
import Derived.Test.YtafpbdmggnfdnaaUnifyMeetsPt5
import Derived.Test.YtafpbdmggnfdnaaUnifyMeetsPt6
import Derived.Test.YtafpbdmggnfdnaaUnifyMeetsPt7
import Derived.Test.YtafpbdmggnfdnaaUnifyMeetsPt8
import Derived.Test.YtafpbdmggnfdnaaUnifyMeetsPt9
import Derived.IntWalk
/- The contracts of the reference lexer's at, remark, words, signs. -/
namespace Go.Proofs.Ytafpbdmggnfdnaa
open Go.RowKit
set_option linter.unusedVariables false

def atB (s : ByteArray) (k : Nat) (u : ByteArray) : Bool := (s.toList.drop k).take u.size == u.toList
theorem atB_long (s : ByteArray) (k : Nat) (u : ByteArray) (h : ¬ k + u.size ≤ s.size) (hk : k ≤ s.size) : atB s k u = false := by
  unfold atB
  rw [beq_eq_false_iff_ne]
  intro e
  have := congrArg List.length e
  rw [List.length_take, List.length_drop, size_toList, size_toList] at this
  omega
set_option maxHeartbeats 400000 in
theorem at_any (s : ByteArray) (a : Int) (u : ByteArray) (w : World) (h0 : 0 ≤ a) (h1 : a ≤ s.size) (hs : s.size ≤ 1000000) (hu : u.size ≤ 1000000) :
    Calls Try.prog 76 #[.string s, .int .i64 a, .string u] w fun e w' => e = .returned (.bool (atB s a.toNat u)) ∧ w = w' := by
  obtain ⟨k, rfl⟩ := Int.eq_ofNat_of_zero_le h0
  rw [Int.toNat_natCast]
  by_cases h : k + u.size ≤ s.size
  · have HX := hide (extract_take s k u.size)
    go_enter Try.func76, Try.ntmps76
    go_wp2
    go_ret
    exact ⟨ret_bool (by unfold atB; rw [← HX.out]), rfl⟩
  · have HX := hide (atB_long s k u h (by omega))
    go_enter Try.func76, Try.ntmps76
    go_wp2
    go_ret
    exact ⟨ret_bool HX.out.symm, rfl⟩
theorem atB_opens (s : ByteArray) (k : Nat) : atB s k ⟨#[40, 42]⟩ = opensL (s.toList.drop k) := by
  unfold atB
  generalize s.toList.drop k = l
  have h2 : (ByteArray.mk #[40, 42]).toList = [40, 42] := ByteArray.toList_mk [40, 42]
  have h3 : (ByteArray.mk #[40, 42]).size = 2 := rfl
  rw [h2, h3]
  rcases l with _ | ⟨c, _ | ⟨d, r⟩⟩
  · rfl
  · rw [Bool.eq_iff_iff]; simp [opensL]
  · rw [Bool.eq_iff_iff]; simp [opensL, ← UInt8.toNat_inj]; omega
theorem atB_closes (s : ByteArray) (k : Nat) : atB s k ⟨#[42, 41]⟩ = closesL (s.toList.drop k) := by
  unfold atB
  generalize s.toList.drop k = l
  have h2 : (ByteArray.mk #[42, 41]).toList = [42, 41] := ByteArray.toList_mk [42, 41]
  have h3 : (ByteArray.mk #[42, 41]).size = 2 := rfl
  rw [h2, h3]
  rcases l with _ | ⟨c, _ | ⟨d, r⟩⟩
  · rfl
  · rw [Bool.eq_iff_iff]; simp [closesL]
  · rw [Bool.eq_iff_iff]; simp [closesL, ← UInt8.toNat_inj]; omega

/-- Where the reference says that a remark ends; 0: it doesn't. -/
def remE (s : ByteArray) (k : Nat) : Nat := if (remL (s.toList.drop k) 0 0).2 then k + (remL (s.toList.drop k) 0 0).1 else 0
set_option maxHeartbeats 1000000 in
theorem rremark_at (s : ByteArray) (k : Nat) (w : World) (hk : k ≤ s.size) (hs : s.size ≤ 1000000) :
    Calls Try.prog 77 #[.string s, .int .i64 k] w fun e w' => e = .returned (.int .i64 (remE s k : Nat)) ∧ w = w' := by
  have HA : Hid (∀ j, atB s j ⟨#[40, 42]⟩ = opensL (s.toList.drop j)) := atB_opens s
  have HC : Hid (∀ j, atB s j ⟨#[42, 41]⟩ = closesL (s.toList.drop j)) := atB_closes s
  go_enter Try.func77, Try.ntmps77
  go_wp2
  go_loop [1, 5] (fun v u => ∃ (n : Nat) (d : Int), k + n ≤ s.size ∧ v = .int .i64 ((k : Int) + n) ∧ u = .int .i64 d ∧ -(n : Int) ≤ d ∧ d ≤ n ∧ Hid (remL (s.toList.drop k) 0 0 = remL (s.toList.drop (k + n)) d n)) (fun v _ => s.size - (intOf v).toNat)
  case atStart => exact ⟨0, 0, by omega, by simp, rfl, by omega, by omega, rfl⟩
  case round =>
    obtain ⟨n, d, hn, rfl, rfl, hd1, hd2, HI⟩ := hrel
    by_cases hlt : k + n < s.size
    · have HS := hide (remL_at s (k + n) d n hlt)
      have ho := opens_lt s (k + n)
      have hc := closes_lt s (k + n)
      have h63 : (k : Int) + n < s.size := by omega
      cases h1 : opensL (s.toList.drop (k + n))
      · cases h2 : closesL (s.toList.drop (k + n))
        · clear ho hc
          have H1 := hide h1; have H2 := hide h2; clear h1 h2
          go_wp2_with (go_at_call 76; refine (at_any _ _ _ _ (by omega) (by omega) hs (by decide)).mono ?_; rintro e w' ⟨rfl, rfl⟩; rw [show ((k : Int) + n).toNat = k + n from by omega]; first | rw [HA.out, H1.out] | rw [HC.out, H2.out])
          go_round
          case rel => exact ⟨n + 1, d, by omega, by go_num, rfl, by omega, by omega, hide (by rw [HI.out, HS.out, H1.out, H2.out]; rfl)⟩
          case measure => simp [intOf]; omega
        · have hc' := hc h2
          clear ho hc
          have H1 := hide h1; have H2 := hide h2; clear h1 h2
          by_cases hd : d = 1
          · subst hd
            go_wp2_with (go_at_call 76; refine (at_any _ _ _ _ (by omega) (by omega) hs (by decide)).mono ?_; rintro e w' ⟨rfl, rfl⟩; rw [show ((k : Int) + n).toNat = k + n from by omega]; first | rw [HA.out, H1.out] | rw [HC.out, H2.out])
            go_ret
            have h : remL (s.toList.drop k) 0 0 = (n + 2, true) := by rw [HI.out, HS.out, H1.out, H2.out]; rfl
            exact ⟨ret_int (by unfold remE; rw [h]; simp; omega), rfl⟩
          · have hd' : (d - 1 == 0) = false := by simp; omega
            go_wp2_with (go_at_call 76; refine (at_any _ _ _ _ (by omega) (by omega) hs (by decide)).mono ?_; rintro e w' ⟨rfl, rfl⟩; rw [show ((k : Int) + n).toNat = k + n from by omega]; first | rw [HA.out, H1.out] | rw [HC.out, H2.out])
            go_round
            case rel => exact ⟨n + 2, d - 1, by omega, by go_num, rfl, by omega, by omega, hide (by rw [HI.out, HS.out, H1.out, H2.out]; simp [show ¬ d - 1 = 0 by omega, Nat.add_assoc])⟩
            case measure => simp [intOf]; omega
      · have ho' := ho h1
        clear ho hc
        have H1 := hide h1; clear h1
        go_wp2_with (go_at_call 76; refine (at_any _ _ _ _ (by omega) (by omega) hs (by decide)).mono ?_; rintro e w' ⟨rfl, rfl⟩; rw [show ((k : Int) + n).toNat = k + n from by omega]; rw [HA.out, H1.out])
        go_round
        case rel => exact ⟨n + 2, d + 1, by omega, by go_num, rfl, by omega, by omega, hide (by rw [HI.out, HS.out, H1.out]; simp [Nat.add_assoc])⟩
        case measure => simp [intOf]; omega
    · have h63 : ¬ (k : Int) + n < s.size := by omega
      go_wp2
      go_ret
      have h := HI.out
      rw [remL_end s (k + n) _ _ (by omega)] at h
      exact ⟨ret_int (by unfold remE; rw [h]; rfl), rfl⟩

def signWords : List Bs := [[45, 62], [58, 58], [59, 59], [40], [41], [44], [124], [61], [60], [43], [45], [42], [95]]
set_option maxHeartbeats 400000 in
theorem words_any (w : World) : Calls Try.prog 82 #[] w fun e w' => e = .returned (.agg #[.string ⟨#[108, 101, 116]⟩, .string ⟨#[114, 101, 99]⟩, .string ⟨#[105, 110]⟩, .string ⟨#[102, 117, 110]⟩, .string ⟨#[105, 102]⟩, .string ⟨#[116, 104, 101, 110]⟩, .string ⟨#[101, 108, 115, 101]⟩, .string ⟨#[109, 97, 116, 99, 104]⟩, .string ⟨#[119, 105, 116, 104]⟩, .string ⟨#[116, 121, 112, 101]⟩, .string ⟨#[111, 102]⟩, .string ⟨#[116, 114, 117, 101]⟩, .string ⟨#[102, 97, 108, 115, 101]⟩]) ∧ Below w.heap.size w w' := by
  go_enter Try.func82, Try.ntmps82
  go_wp2
  exact bodyPost_ret (v := .agg #[.string ⟨#[108, 101, 116]⟩, .string ⟨#[114, 101, 99]⟩, .string ⟨#[105, 110]⟩, .string ⟨#[102, 117, 110]⟩, .string ⟨#[105, 102]⟩, .string ⟨#[116, 104, 101, 110]⟩, .string ⟨#[101, 108, 115, 101]⟩, .string ⟨#[109, 97, 116, 99, 104]⟩, .string ⟨#[119, 105, 116, 104]⟩, .string ⟨#[116, 121, 112, 101]⟩, .string ⟨#[111, 102]⟩, .string ⟨#[116, 114, 117, 101]⟩, .string ⟨#[102, 97, 108, 115, 101]⟩]) (by simp [results, Try.results82, go_sem]) rfl ⟨rfl, (Below.refl _ _).alloc (Nat.le_refl _) _⟩
theorem words_cell (w : World) (t : TypeId) (k : Nat) (h : k < 13) : (w.alloc (.cells #[.string ⟨#[108, 101, 116]⟩, .string ⟨#[114, 101, 99]⟩, .string ⟨#[105, 110]⟩, .string ⟨#[102, 117, 110]⟩, .string ⟨#[105, 102]⟩, .string ⟨#[116, 104, 101, 110]⟩, .string ⟨#[101, 108, 115, 101]⟩, .string ⟨#[109, 97, 116, 99, 104]⟩, .string ⟨#[119, 105, 116, 104]⟩, .string ⟨#[116, 121, 112, 101]⟩, .string ⟨#[111, 102]⟩, .string ⟨#[116, 114, 117, 101]⟩, .string ⟨#[102, 97, 108, 115, 101]⟩] t)).cell? ⟨w.heap.size, k, none⟩ = some (.string ⟨(keyWords.getD k []).toArray⟩) := by
  rw [cell_of_row _ _ _ _ _ _ (heap_alloc_new w _)]
  match k, h with
  | 0, _ => rfl
  | 1, _ => rfl
  | 2, _ => rfl
  | 3, _ => rfl
  | 4, _ => rfl
  | 5, _ => rfl
  | 6, _ => rfl
  | 7, _ => rfl
  | 8, _ => rfl
  | 9, _ => rfl
  | 10, _ => rfl
  | 11, _ => rfl
  | 12, _ => rfl
set_option maxHeartbeats 400000 in
theorem signs_any (w : World) : Calls Try.prog 83 #[] w fun e w' => e = .returned (.agg #[.string ⟨#[45, 62]⟩, .string ⟨#[58, 58]⟩, .string ⟨#[59, 59]⟩, .string ⟨#[40]⟩, .string ⟨#[41]⟩, .string ⟨#[44]⟩, .string ⟨#[124]⟩, .string ⟨#[61]⟩, .string ⟨#[60]⟩, .string ⟨#[43]⟩, .string ⟨#[45]⟩, .string ⟨#[42]⟩, .string ⟨#[95]⟩]) ∧ Below w.heap.size w w' := by
  go_enter Try.func83, Try.ntmps83
  go_wp2
  exact bodyPost_ret (v := .agg #[.string ⟨#[45, 62]⟩, .string ⟨#[58, 58]⟩, .string ⟨#[59, 59]⟩, .string ⟨#[40]⟩, .string ⟨#[41]⟩, .string ⟨#[44]⟩, .string ⟨#[124]⟩, .string ⟨#[61]⟩, .string ⟨#[60]⟩, .string ⟨#[43]⟩, .string ⟨#[45]⟩, .string ⟨#[42]⟩, .string ⟨#[95]⟩]) (by simp [results, Try.results83, go_sem]) rfl ⟨rfl, (Below.refl _ _).alloc (Nat.le_refl _) _⟩
theorem signs_cell (w : World) (t : TypeId) (k : Nat) (h : k < 13) : (w.alloc (.cells #[.string ⟨#[45, 62]⟩, .string ⟨#[58, 58]⟩, .string ⟨#[59, 59]⟩, .string ⟨#[40]⟩, .string ⟨#[41]⟩, .string ⟨#[44]⟩, .string ⟨#[124]⟩, .string ⟨#[61]⟩, .string ⟨#[60]⟩, .string ⟨#[43]⟩, .string ⟨#[45]⟩, .string ⟨#[42]⟩, .string ⟨#[95]⟩] t)).cell? ⟨w.heap.size, k, none⟩ = some (.string ⟨(signWords.getD k []).toArray⟩) := by
  rw [cell_of_row _ _ _ _ _ _ (heap_alloc_new w _)]
  match k, h with
  | 0, _ => rfl
  | 1, _ => rfl
  | 2, _ => rfl
  | 3, _ => rfl
  | 4, _ => rfl
  | 5, _ => rfl
  | 6, _ => rfl
  | 7, _ => rfl
  | 8, _ => rfl
  | 9, _ => rfl
  | 10, _ => rfl
  | 11, _ => rfl
  | 12, _ => rfl
end Go.Proofs.Ytafpbdmggnfdnaa

/- The contract of the reference lexer's one. -/
namespace Go.Proofs.Ytafpbdmggnfdnaa
open Go.RowKit
set_option linter.unusedVariables false

def oneE (k : Nat) (t : Int × Nat) : Nat := if t.2 = 0 then 0 else k + t.2
def OneOut (s : ByteArray) (k : Nat) (w : World) (e : Ending) (w' : World) : Prop :=
  e = .returned (.tuple #[.int .i64 (tokenL (s.toList.drop k)).1, .int .i64 (oneE k (tokenL (s.toList.drop k)) : Nat)]) ∧ Below w.heap.size w w'
theorem one_close {s : ByteArray} {k j : Nat} {K : Int} {w w' : World} (z : Nat) (hT : tokenL (s.toList.drop k) = (K, z)) (hz : 0 < z) (hj : k + z = j) (hb : Below w.heap.size w w') :
    OneOut s k w (.returned (.tuple #[.int .i64 K, .int .i64 j])) w' := by
  unfold OneOut
  rw [hT]
  refine ⟨?_, hb⟩
  rw [← hj]
  simp [oneE, show ¬ z = 0 by omega]
theorem one_none {s : ByteArray} {k : Nat} {w w' : World} (hT : tokenL (s.toList.drop k) = (0, 0)) (hb : Below w.heap.size w w') :
    OneOut s k w (.returned (.tuple #[.int .i64 0, .int .i64 0])) w' := by
  unfold OneOut
  rw [hT]
  exact ⟨rfl, hb⟩
theorem extract_to (s : ByteArray) (k j : Nat) (h : k ≤ j) : (s.extract k j).toList = (s.toList.drop k).take (j - k) := by
  have := extract_take s k (j - k)
  rwa [show k + (j - k) = j by omega] at this

theorem kw_mem (m : Nat) (h : m < 13) : keyWords.getD m [] ∈ keyWords := by
  rw [List.getD_eq_getElem?_getD, List.getElem?_eq_getElem (show m < keyWords.length from h)]; exact List.getElem_mem _
theorem kind_key (u : Bs) (h : (u == [95]) = false) (hm : u ∈ keyWords) : wordKindL u = 5 := by
  unfold wordKindL; rw [if_neg (by simpa using h), if_pos hm]
theorem kind_name (u : Bs) (h : (u == [95]) = false) (hm : ∀ i, i < 13 → ¬ keyWords.getD i [] = u) : wordKindL u = 1 := by
  unfold wordKindL; rw [if_neg (by simpa using h), if_neg]
  intro hu
  obtain ⟨i, hi, e⟩ := List.getElem_of_mem hu
  exact hm i hi (by rw [List.getD_eq_getElem?_getD, List.getElem?_eq_getElem hi]; exact e)

set_option maxRecDepth 100000 in
set_option maxHeartbeats 4000000 in
theorem one_word (s : ByteArray) (k : Nat) (w : World) (hk : k < s.size) (hs : s.size ≤ 1000000) (h1 : (smallB (byt s k) || byt s k == 95) = true) :
    Calls Try.prog 78 #[.string s, .int .i64 k] w (OneOut s k w) := by
  have e1 := byt_eq s k hk
  have HT := hide (tokenL_word s k hk h1)
  have HR := hide (runL_at true s k hk)
  generalize byt s k = x at *
  have hn : nameB true x = true := by
    unfold nameB; revert h1; cases smallB x <;> simp
    intro h; simp [h]
  rw [if_pos hn] at HR
  have g2 : greatB x = false := by
    revert h1; unfold smallB greatB; simp; omega
  rcases (show smallB x = true ∨ (smallB x = false ∧ (x == 95) = true) by revert h1; cases smallB x <;> simp) with g1 | ⟨g1, g3⟩
  all_goals
    clear h1
    go_enter Try.func78, Try.ntmps78
    go_wp2_with (first | (go_at_call 79; refine (rsmall_any _ _).mono ?_; rintro e w' ⟨rfl, rfl⟩) | (go_at_call 80; refine (rgreat_any _ _).mono ?_; rintro e w' ⟨rfl, rfl⟩))
    go_loop [7] (fun v => ∃ j : Nat, k + 1 ≤ j ∧ j ≤ s.size ∧ v = .int .i64 j ∧ Hid (k + runL true (s.toList.drop k) = j + runL true (s.toList.drop j))) (fun v => s.size - (intOf v).toNat)
    case atStart => exact ⟨k + 1, Nat.le_refl _, by omega, by go_num, hide (by rw [HR.out]; omega)⟩
    case round =>
      obtain ⟨j, hkj, hj, rfl, HI⟩ := hrel
      by_cases hex : j < s.size ∧ nameB true (byt s j) = true
      · obtain ⟨hlt, hy⟩ := hex
        have e2 := byt_eq s j hlt
        have HS := hide (runL_at true s j hlt)
        generalize byt s j = y at *
        have HY := hide hy; clear hy
        rcases (show smallB y = true ∨ (smallB y = false ∧ greatB y = true) ∨ (smallB y = false ∧ greatB y = false ∧ digitB y = true) ∨ (smallB y = false ∧ greatB y = false ∧ digitB y = false ∧ (y == 95) = true) ∨ (smallB y = false ∧ greatB y = false ∧ digitB y = false ∧ (y == 95) = false ∧ (y == 39) = true) by
          have := HY.out; unfold nameB at this; revert this; cases smallB y <;> cases greatB y <;> cases digitB y <;> cases y == 95 <;> simp) with y1 | ⟨y1, y2⟩ | ⟨y1, y2, y3⟩ | ⟨y1, y2, y3, y4⟩ | ⟨y1, y2, y3, y4, y5⟩
        all_goals
          go_wp2_with (first | (go_at_call 79; refine (rsmall_any _ _).mono ?_; rintro e w' ⟨rfl, rfl⟩) | (go_at_call 80; refine (rgreat_any _ _).mono ?_; rintro e w' ⟨rfl, rfl⟩) | (go_at_call 81; refine (rdigit_any _ _).mono ?_; rintro e w' ⟨rfl, rfl⟩))
          go_round
          case rel => exact ⟨j + 1, by omega, by omega, by go_num, hide (by rw [HI.out, HS.out, if_pos HY.out]; omega)⟩
          case measure => simp [intOf]; omega
      · have HZ : Hid (k + runL true (s.toList.drop k) = j) := by
          refine hide ?_
          by_cases hlt : j < s.size
          · rw [HI.out, runL_at true s j hlt, if_neg (by simpa [hlt] using hex)]; rfl
          · rw [HI.out, runL_end true s j (by omega)]; rfl
        have HX := hide (extract_to s k j (by omega))
        rw [show j - k = runL true (s.toList.drop k) by have := HZ.out; omega] at HX
        have hout : j < s.size → smallB (byt s j) = false ∧ greatB (byt s j) = false ∧ digitB (byt s j) = false ∧ (byt s j == 95) = false ∧ (byt s j == 39) = false := by
          intro hlt
          have hy : nameB true (byt s j) = false := by simpa [hlt] using hex
          simpa [nameB, and_assoc] using hy
        clear hex HI
        by_cases hlt : j < s.size
        all_goals
          try (obtain ⟨y1, y2, y3, y4, y5⟩ := hout hlt; have e2 := byt_eq s j hlt)
          clear hout
          try generalize byt s j = y at *
          cases hu : ((s.extract k j).toList == [95])
          · go_wp2_with (first | (go_at_call 79; refine (rsmall_any _ _).mono ?_; rintro e w' ⟨rfl, rfl⟩) | (go_at_call 80; refine (rgreat_any _ _).mono ?_; rintro e w' ⟨rfl, rfl⟩) | (go_at_call 81; refine (rdigit_any _ _).mono ?_; rintro e w' ⟨rfl, rfl⟩) | (go_at_call 82; refine (words_any _).mono ?_; rintro e w1 ⟨rfl, hb1⟩))
            go_loop [10] (fun v => ∃ m : Nat, m ≤ 13 ∧ v = .int .i64 m ∧ Hid (∀ i, i < m → ¬ keyWords.getD i [] = (s.extract k j).toList)) (fun v => 13 - (intOf v).toNat)
            case atStart => exact ⟨0, by omega, rfl, hide (by intro i hi; omega)⟩
            case round =>
              obtain ⟨m, hm, rfl, HM⟩ := hrel
              have hbb := hb1.alloc hb1.size (.cells #[.string ⟨#[108, 101, 116]⟩, .string ⟨#[114, 101, 99]⟩, .string ⟨#[105, 110]⟩, .string ⟨#[102, 117, 110]⟩, .string ⟨#[105, 102]⟩, .string ⟨#[116, 104, 101, 110]⟩, .string ⟨#[101, 108, 115, 101]⟩, .string ⟨#[109, 97, 116, 99, 104]⟩, .string ⟨#[119, 105, 116, 104]⟩, .string ⟨#[116, 121, 112, 101]⟩, .string ⟨#[111, 102]⟩, .string ⟨#[116, 114, 117, 101]⟩, .string ⟨#[102, 97, 108, 115, 101]⟩] 128)
              by_cases hlt13 : m < 13
              · have hc := words_cell w1 128 m hlt13
                have HK := hide (kw_mem m hlt13)
                generalize hkv : keyWords.getD m [] = kv at *
                have HKV := hide hkv; clear hkv
                cases hkw : (kv == (s.extract k j).toList)
                · go_wp2
                  go_round
                  case rel => exact ⟨m + 1, by omega, by go_num, hide (by
                    intro i hi
                    rcases Nat.lt_succ_iff_lt_or_eq.1 hi with h | rfl
                    · exact HM.out i h
                    · rw [HKV.out]; simpa using hkw)⟩
                  case measure => simp [intOf]; omega
                · go_wp2
                  go_ret2
                  have hmem := HK.out
                  simp only [beq_iff_eq] at hkw
                  rw [hkw] at hmem
                  refine one_close (runL true (s.toList.drop k)) (by rw [HT.out, ← HX.out, kind_key _ hu hmem]) (by rw [HR.out]; omega) HZ.out hbb
              · go_wp2
                go_ret2
                have hnm := kind_name _ hu (fun i hi => HM.out i (by omega))
                refine one_close (runL true (s.toList.drop k)) (by rw [HT.out, ← HX.out, hnm]) (by rw [HR.out]; omega) HZ.out hbb
          · go_wp2_with (first | (go_at_call 79; refine (rsmall_any _ _).mono ?_; rintro e w' ⟨rfl, rfl⟩) | (go_at_call 80; refine (rgreat_any _ _).mono ?_; rintro e w' ⟨rfl, rfl⟩) | (go_at_call 81; refine (rdigit_any _ _).mono ?_; rintro e w' ⟨rfl, rfl⟩) | (go_at_call 82; refine (words_any _).mono ?_; rintro e w1 ⟨rfl, hb1⟩))
            go_ret2
            refine one_close (runL true (s.toList.drop k)) (by rw [HT.out, ← HX.out]; simp at hu; simp [wordKindL, hu]) (by rw [HR.out]; omega) HZ.out (Below.refl _ _)
set_option maxRecDepth 100000 in
set_option maxHeartbeats 4000000 in
theorem one_great (s : ByteArray) (k : Nat) (w : World) (hk : k < s.size) (hs : s.size ≤ 1000000) (h1 : (smallB (byt s k) || byt s k == 95) = false) (h2 : greatB (byt s k) = true) :
    Calls Try.prog 78 #[.string s, .int .i64 k] w (OneOut s k w) := by
  have e1 := byt_eq s k hk
  have HT := hide (tokenL_great s k hk h1 h2)
  have HR := hide (runL_at true s k hk)
  have HF := hide (drop_byt s k hk)
  generalize byt s k = x at *
  have hn : nameB true x = true := by
    unfold nameB; simp [h2]
  rw [if_pos hn] at HR
  obtain ⟨g1, g3⟩ : smallB x = false ∧ (x == 95) = false := by simpa using h1
  clear h1
  all_goals
    go_enter Try.func78, Try.ntmps78
    go_wp2_with (first | (go_at_call 79; refine (rsmall_any _ _).mono ?_; rintro e w' ⟨rfl, rfl⟩) | (go_at_call 80; refine (rgreat_any _ _).mono ?_; rintro e w' ⟨rfl, rfl⟩))
    go_loop [7] (fun v => ∃ j : Nat, k + 1 ≤ j ∧ j ≤ s.size ∧ v = .int .i64 j ∧ Hid (k + runL true (s.toList.drop k) = j + runL true (s.toList.drop j))) (fun v => s.size - (intOf v).toNat)
    case atStart => exact ⟨k + 1, Nat.le_refl _, by omega, by go_num, hide (by rw [HR.out]; omega)⟩
    case round =>
      obtain ⟨j, hkj, hj, rfl, HI⟩ := hrel
      by_cases hex : j < s.size ∧ nameB true (byt s j) = true
      · obtain ⟨hlt, hy⟩ := hex
        have e2 := byt_eq s j hlt
        have HS := hide (runL_at true s j hlt)
        generalize byt s j = y at *
        have HY := hide hy; clear hy
        rcases (show smallB y = true ∨ (smallB y = false ∧ greatB y = true) ∨ (smallB y = false ∧ greatB y = false ∧ digitB y = true) ∨ (smallB y = false ∧ greatB y = false ∧ digitB y = false ∧ (y == 95) = true) ∨ (smallB y = false ∧ greatB y = false ∧ digitB y = false ∧ (y == 95) = false ∧ (y == 39) = true) by
          have := HY.out; unfold nameB at this; revert this; cases smallB y <;> cases greatB y <;> cases digitB y <;> cases y == 95 <;> simp) with y1 | ⟨y1, y2⟩ | ⟨y1, y2, y3⟩ | ⟨y1, y2, y3, y4⟩ | ⟨y1, y2, y3, y4, y5⟩
        all_goals
          go_wp2_with (first | (go_at_call 79; refine (rsmall_any _ _).mono ?_; rintro e w' ⟨rfl, rfl⟩) | (go_at_call 80; refine (rgreat_any _ _).mono ?_; rintro e w' ⟨rfl, rfl⟩) | (go_at_call 81; refine (rdigit_any _ _).mono ?_; rintro e w' ⟨rfl, rfl⟩))
          go_round
          case rel => exact ⟨j + 1, by omega, by omega, by go_num, hide (by rw [HI.out, HS.out, if_pos HY.out]; omega)⟩
          case measure => simp [intOf]; omega
      · have HZ : Hid (k + runL true (s.toList.drop k) = j) := by
          refine hide ?_
          by_cases hlt : j < s.size
          · rw [HI.out, runL_at true s j hlt, if_neg (by simpa [hlt] using hex)]; rfl
          · rw [HI.out, runL_end true s j (by omega)]; rfl
        have HX := hide (extract_to s k j (by omega))
        rw [show j - k = runL true (s.toList.drop k) by have := HZ.out; omega] at HX
        have hout : j < s.size → smallB (byt s j) = false ∧ greatB (byt s j) = false ∧ digitB (byt s j) = false ∧ (byt s j == 95) = false ∧ (byt s j == 39) = false := by
          intro hlt
          have hy : nameB true (byt s j) = false := by simpa [hlt] using hex
          simpa [nameB, and_assoc] using hy
        clear hex HI
        by_cases hlt : j < s.size
        all_goals
          try (obtain ⟨y1, y2, y3, y4, y5⟩ := hout hlt; have e2 := byt_eq s j hlt)
          clear hout
          try generalize byt s j = y at *
          have hu : ((s.extract k j).toList == [95]) = false := by
            rw [HX.out, HR.out]
            obtain ⟨c, hc, e⟩ := HF.out
            rw [e, beq_eq_false_iff_ne, Nat.add_comm, List.take_succ_cons]
            intro e'
            injection e' with e' _
            subst e'
            rw [beq_eq_false_iff_ne] at g3
            exact g3 (by rw [← hc]; rfl)
          go_wp2_with (first | (go_at_call 79; refine (rsmall_any _ _).mono ?_; rintro e w' ⟨rfl, rfl⟩) | (go_at_call 80; refine (rgreat_any _ _).mono ?_; rintro e w' ⟨rfl, rfl⟩) | (go_at_call 81; refine (rdigit_any _ _).mono ?_; rintro e w' ⟨rfl, rfl⟩))
          go_ret2
          refine one_close (runL true (s.toList.drop k)) HT.out (by rw [HR.out]; omega) HZ.out (Below.refl _ _)

set_option maxRecDepth 100000 in
set_option maxHeartbeats 4000000 in
theorem one_digit (s : ByteArray) (k : Nat) (w : World) (hk : k < s.size) (hs : s.size ≤ 1000000) (h1 : (smallB (byt s k) || byt s k == 95) = false) (h2 : greatB (byt s k) = false) (h3 : digitB (byt s k) = true) :
    Calls Try.prog 78 #[.string s, .int .i64 k] w (OneOut s k w) := by
  have e1 := byt_eq s k hk
  have HT := hide (tokenL_digit s k hk h1 h2 h3)
  generalize byt s k = x at *
  obtain ⟨g1, g3⟩ : smallB x = false ∧ (x == 95) = false := by simpa using h1
  clear h1
  go_enter Try.func78, Try.ntmps78
  go_wp2_with (first | (go_at_call 79; refine (rsmall_any _ _).mono ?_; rintro e w' ⟨rfl, rfl⟩) | (go_at_call 80; refine (rgreat_any _ _).mono ?_; rintro e w' ⟨rfl, rfl⟩) | (go_at_call 81; refine (rdigit_any _ _).mono ?_; rintro e w' ⟨rfl, rfl⟩))
  go_loop [7] (fun v => ∃ j : Nat, k + 1 ≤ j ∧ j ≤ s.size ∧ v = .int .i64 j ∧ Hid (k + 1 + digL (s.toList.drop (k + 1)) = j + digL (s.toList.drop j))) (fun v => s.size - (intOf v).toNat)
  case atStart => exact ⟨k + 1, Nat.le_refl _, by omega, by go_num, rfl⟩
  case round =>
    obtain ⟨j, hkj, hj, rfl, HI⟩ := hrel
    by_cases hlt : j < s.size
    · have e2 := byt_eq s j hlt
      have HS := hide (digL_at s j hlt)
      generalize byt s j = y at *
      cases hy : digitB y
      · go_wp2_with (first | (go_at_call 79; refine (rsmall_any _ _).mono ?_; rintro e w' ⟨rfl, rfl⟩) | (go_at_call 80; refine (rgreat_any _ _).mono ?_; rintro e w' ⟨rfl, rfl⟩) | (go_at_call 81; refine (rdigit_any _ _).mono ?_; rintro e w' ⟨rfl, rfl⟩))
        go_ret2
        have h := HI.out
        rw [HS.out, if_neg (by simp [hy])] at h
        exact one_close _ HT.out (by omega) (by omega) (Below.refl _ _)
      · go_wp2_with (first | (go_at_call 79; refine (rsmall_any _ _).mono ?_; rintro e w' ⟨rfl, rfl⟩) | (go_at_call 80; refine (rgreat_any _ _).mono ?_; rintro e w' ⟨rfl, rfl⟩) | (go_at_call 81; refine (rdigit_any _ _).mono ?_; rintro e w' ⟨rfl, rfl⟩))
        go_round
        case rel => exact ⟨j + 1, by omega, by omega, by go_num, hide (by rw [HI.out, HS.out, if_pos hy]; omega)⟩
        case measure => simp [intOf]; omega
    · go_wp2_with (first | (go_at_call 79; refine (rsmall_any _ _).mono ?_; rintro e w' ⟨rfl, rfl⟩) | (go_at_call 80; refine (rgreat_any _ _).mono ?_; rintro e w' ⟨rfl, rfl⟩) | (go_at_call 81; refine (rdigit_any _ _).mono ?_; rintro e w' ⟨rfl, rfl⟩))
      go_ret2
      have h := HI.out
      rw [digL_end s j (by omega)] at h
      exact one_close _ HT.out (by omega) (by omega) (Below.refl _ _)

set_option maxRecDepth 100000 in
set_option maxHeartbeats 4000000 in
theorem one_tick (s : ByteArray) (k : Nat) (w : World) (hk : k < s.size) (hs : s.size ≤ 1000000) (h4 : byt s k = 39) (hlt1 : k + 1 < s.size) (h5 : smallB (byt s (k + 1)) = true) :
    Calls Try.prog 78 #[.string s, .int .i64 k] w (OneOut s k w) := by
  have e1 := byt_eq s k hk
  have HT := hide (tokenL_tick s k hk h4)
  rw [h4] at e1
  rw [h5, if_pos (by simpa using hlt1)] at HT
  clear h4
  have e3 := byt_eq s (k + 1) hlt1
  have HR := hide (runL_at false s (k + 1) hlt1)
  rw [if_pos (show nameB false (byt s (k + 1)) = true by unfold nameB; simp [h5])] at HR
  generalize byt s (k + 1) = z at *
  have g1 : smallB 39 = false := rfl
  have g2 : greatB 39 = false := rfl
  have g3 : digitB 39 = false := rfl
  go_enter Try.func78, Try.ntmps78
  go_wp2_with (first | (go_at_call 79; refine (rsmall_any _ _).mono ?_; rintro e w' ⟨rfl, rfl⟩) | (go_at_call 80; refine (rgreat_any _ _).mono ?_; rintro e w' ⟨rfl, rfl⟩) | (go_at_call 81; refine (rdigit_any _ _).mono ?_; rintro e w' ⟨rfl, rfl⟩))
  go_loop [7] (fun v => ∃ j : Nat, k + 1 ≤ j ∧ j ≤ s.size ∧ v = .int .i64 j ∧ Hid (k + 1 + runL false (s.toList.drop (k + 1)) = j + runL false (s.toList.drop j))) (fun v => s.size - (intOf v).toNat)
  case atStart => exact ⟨k + 1, Nat.le_refl _, by omega, by go_num, rfl⟩
  case round =>
    obtain ⟨j, hkj, hj, rfl, HI⟩ := hrel
    clear e3
    by_cases hlt : j < s.size
    · have e2 := byt_eq s j hlt
      have HS := hide (runL_at false s j hlt)
      generalize byt s j = y at *
      cases hy : nameB false y
      · obtain ⟨y1, y2, y3, y4⟩ : smallB y = false ∧ greatB y = false ∧ digitB y = false ∧ (y == 95) = false := by
          simpa [nameB, and_assoc] using hy
        have HY := hide hy; clear hy
        go_wp2_with (first | (go_at_call 79; refine (rsmall_any _ _).mono ?_; rintro e w' ⟨rfl, rfl⟩) | (go_at_call 80; refine (rgreat_any _ _).mono ?_; rintro e w' ⟨rfl, rfl⟩) | (go_at_call 81; refine (rdigit_any _ _).mono ?_; rintro e w' ⟨rfl, rfl⟩))
        go_ret2
        have h := HI.out
        rw [HS.out, if_neg (by simp [HY.out])] at h
        exact one_close _ HT.out (by omega) (by omega) (Below.refl _ _)
      · have HY := hide hy; clear hy
        rcases (show smallB y = true ∨ (smallB y = false ∧ greatB y = true) ∨ (smallB y = false ∧ greatB y = false ∧ digitB y = true) ∨ (smallB y = false ∧ greatB y = false ∧ digitB y = false ∧ (y == 95) = true) by
          have := HY.out; unfold nameB at this; revert this; cases smallB y <;> cases greatB y <;> cases digitB y <;> cases y == 95 <;> simp) with y1 | ⟨y1, y2⟩ | ⟨y1, y2, y3⟩ | ⟨y1, y2, y3, y4⟩
        all_goals
          go_wp2_with (first | (go_at_call 79; refine (rsmall_any _ _).mono ?_; rintro e w' ⟨rfl, rfl⟩) | (go_at_call 80; refine (rgreat_any _ _).mono ?_; rintro e w' ⟨rfl, rfl⟩) | (go_at_call 81; refine (rdigit_any _ _).mono ?_; rintro e w' ⟨rfl, rfl⟩))
          go_round
          case rel => exact ⟨j + 1, by omega, by omega, by go_num, hide (by rw [HI.out, HS.out, if_pos HY.out]; omega)⟩
          case measure => simp [intOf]; omega
    · go_wp2_with (first | (go_at_call 79; refine (rsmall_any _ _).mono ?_; rintro e w' ⟨rfl, rfl⟩) | (go_at_call 80; refine (rgreat_any _ _).mono ?_; rintro e w' ⟨rfl, rfl⟩) | (go_at_call 81; refine (rdigit_any _ _).mono ?_; rintro e w' ⟨rfl, rfl⟩))
      go_ret2
      have h := HI.out
      rw [runL_end false s j (by omega)] at h
      exact one_close _ HT.out (by omega) (by omega) (Below.refl _ _)

end Go.Proofs.Ytafpbdmggnfdnaa

/- The contract of the reference lexer's one, at signs and at nothing. -/
namespace Go.Proofs.Ytafpbdmggnfdnaa
open Go.RowKit
set_option linter.unusedVariables false

def atL (l u : Bs) : Bool := l.take u.length == u
theorem atB_atL (s : ByteArray) (k : Nat) (u : Bs) : atB s k ⟨u.toArray⟩ = atL (s.toList.drop k) u := by
  unfold atB atL
  have h := size_toList ⟨u.toArray⟩
  rw [ByteArray.toList_mk] at h
  rw [show (ByteArray.mk u.toArray).toList = u from ByteArray.toList_mk u, ← h]
theorem sw_le (m : Nat) : (signWords.getD m []).length ≤ 2 := by
  by_cases h : m < 13
  · match m, h with
    | 0, _ | 1, _ | 2, _ | 3, _ | 4, _ | 5, _ | 6, _ | 7, _ | 8, _ | 9, _ | 10, _ | 11, _ | 12, _ => decide
  · rw [List.getD_eq_getElem?_getD, List.getElem?_eq_none (by show 13 ≤ m; omega)]; decide
theorem sw_pos (m : Nat) (h : m < 13) : 0 < (signWords.getD m []).length := by
  match m, h with
  | 0, _ | 1, _ | 2, _ | 3, _ | 4, _ | 5, _ | 6, _ | 7, _ | 8, _ | 9, _ | 10, _ | 11, _ | 12, _ => decide
theorem one_close' {s : ByteArray} {k : Nat} {J K : Int} {w w' : World} (z : Nat) (hT : tokenL (s.toList.drop k) = (K, z)) (hz : 0 < z) (hj : (k : Int) + z = J) (hb : Below w.heap.size w w') :
    OneOut s k w (.returned (.tuple #[.int .i64 K, .int .i64 J])) w' := by
  have := one_close (s := s) (k := k) (j := k + z) (K := K) (w := w) (w' := w') z hT hz rfl hb
  rw [← hj]
  simpa using this
theorem sign_found (c : UInt8) (r : Bs) (m : Nat) (hm : m < 13) (h95 : ((c.toNat : Int) == 95) = false) (h : atL (c :: r) (signWords.getD m []) = true) (hp : ∀ i, i < m → atL (c :: r) (signWords.getD i []) = false) :
    signL (c :: r) = (signWords.getD m []).length := by
  have q0 := hp 0
  have q1 := hp 1
  have q2 := hp 2
  clear hp
  rcases r with _ | ⟨d, r⟩
  all_goals
    match m, hm with
    | 0, _ | 1, _ | 2, _ | 3, _ | 4, _ | 5, _ | 6, _ | 7, _ | 8, _ | 9, _ | 10, _ | 11, _ | 12, _ =>
      simp [atL, signWords] at h q0 q1 q2 <;> (try (obtain ⟨rfl, rfl⟩ := h)) <;> (try subst h) <;>
      first | (simp at h95; done) | (simp [signL, sign2B, sign1B, signWords]; done) | (simp [← UInt8.toNat_inj] at q0 <;> simp [signL, sign2B, sign1B, signWords] <;> omega)
theorem sign_none (c : UInt8) (r : Bs) (hp : ∀ i, i < 13 → atL (c :: r) (signWords.getD i []) = false) : signL (c :: r) = 0 := by
  have q0 := hp 0 (by omega)
  have q1 := hp 1 (by omega)
  have q2 := hp 2 (by omega)
  have q3 := hp 3 (by omega)
  have q4 := hp 4 (by omega)
  have q5 := hp 5 (by omega)
  have q6 := hp 6 (by omega)
  have q7 := hp 7 (by omega)
  have q8 := hp 8 (by omega)
  have q9 := hp 9 (by omega)
  have q10 := hp 10 (by omega)
  have q11 := hp 11 (by omega)
  clear hp
  simp [atL, signWords, ← UInt8.toNat_inj] at q0 q1 q2 q3 q4 q5 q6 q7 q8 q9 q10 q11
  rcases r with _ | ⟨d, r⟩
  · simp [signL, sign1B]; omega
  · simp [← UInt8.toNat_inj] at q0 q1 q2
    simp only [signL]; rw [if_neg (by simp [sign2B]; omega), if_neg (by simp [sign1B]; omega)]
theorem sign_39 (c : UInt8) (r : Bs) (h : (c.toNat : Int) = 39) : signL (c :: r) = 0 := by
  rcases r with _ | ⟨d, r⟩ <;> simp [signL, h, sign1B, sign2B]

/-- What is known where neither a name, a great one, a number nor a tick begins. -/
structure SignHere (s : ByteArray) (k : Nat) : Prop where
  lt : k < s.size
  word : (smallB (byt s k) || byt s k == 95) = false
  great : greatB (byt s k) = false
  digit : digitB (byt s k) = false
  tick : byt s k = 39 → k + 1 < s.size → smallB (byt s (k + 1)) = false
theorem SignHere.token {s : ByteArray} {k : Nat} (h : SignHere s k) : tokenL (s.toList.drop k) = if 0 < signL (s.toList.drop k) then (6, signL (s.toList.drop k)) else (0, 0) := by
  by_cases h4 : byt s k = 39
  · rw [tokenL_tick s k h.lt h4]
    obtain ⟨c, hc, e⟩ := drop_byt s k h.lt
    rw [e, sign_39 c _ (by rw [hc, h4]), if_neg (by
      intro hh
      rw [Bool.and_eq_true, decide_eq_true_eq] at hh
      rw [h.tick h4 hh.1] at hh
      exact absurd hh.2 (by decide))]
    rfl
  · exact tokenL_sign s k h.lt h.word h.great h.digit (by simpa using h4)

set_option maxRecDepth 100000 in
set_option maxHeartbeats 4000000 in
theorem one_sign (s : ByteArray) (k : Nat) (w : World) (hs : s.size ≤ 1000000) (h : SignHere s k) :
    Calls Try.prog 78 #[.string s, .int .i64 k] w (OneOut s k w) := by
  have hk := h.lt
  have e1 := byt_eq s k hk
  have HT := hide h.token
  obtain ⟨c, hc, e⟩ := drop_byt s k hk
  have HF : Hid (∀ m, m < 13 → atL (s.toList.drop k) (signWords.getD m []) = true → (∀ i, i < m → atL (s.toList.drop k) (signWords.getD i []) = false) → signL (s.toList.drop k) = (signWords.getD m []).length) := by
    rw [e]
    exact hide fun m hm => sign_found c _ m hm (by have := h.word; simp at this; rw [hc]; simpa using this.2)
  have HN : Hid ((∀ i, i < 13 → atL (s.toList.drop k) (signWords.getD i []) = false) → signL (s.toList.drop k) = 0) := by
    rw [e]; exact hide (sign_none c _)
  clear e hc
  have hw := h.word; have hg := h.great; have hd := h.digit; have htk := h.tick
  clear h
  generalize byt s k = x at *
  obtain ⟨g1, g3⟩ : smallB x = false ∧ (x == 95) = false := by simpa using hw
  clear hw
  rcases (show (x == 39) = false ∨ ((x == 39) = true ∧ ¬ k + 1 < s.size) ∨ ((x == 39) = true ∧ k + 1 < s.size ∧ smallB (byt s (k + 1)) = false) by
    cases h39 : x == 39
    · exact .inl rfl
    · by_cases hlt : k + 1 < s.size
      · exact .inr (.inr ⟨rfl, hlt, htk (by simpa using h39) hlt⟩)
      · exact .inr (.inl ⟨rfl, hlt⟩)) with g4 | ⟨g4, g5⟩ | ⟨g4, g5, g6⟩
  all_goals
    clear htk
    try (have e3 := byt_eq s (k + 1) g5)
    try generalize byt s (k + 1) = y at *
    go_enter Try.func78, Try.ntmps78
    go_wp2_with (first | (go_at_call 79; refine (rsmall_any _ _).mono ?_; rintro e w' ⟨rfl, rfl⟩) | (go_at_call 80; refine (rgreat_any _ _).mono ?_; rintro e w' ⟨rfl, rfl⟩) | (go_at_call 81; refine (rdigit_any _ _).mono ?_; rintro e w' ⟨rfl, rfl⟩) | (go_at_call 83; refine (signs_any _).mono ?_; rintro e w1 ⟨rfl, hb1⟩))
    go_loopw [12] (fun v wr => ∃ m q : Nat, m ≤ 13 ∧ v = .int .i64 m ∧ wr = (w1.alloc (.cells #[.string ⟨#[45, 62]⟩, .string ⟨#[58, 58]⟩, .string ⟨#[59, 59]⟩, .string ⟨#[40]⟩, .string ⟨#[41]⟩, .string ⟨#[44]⟩, .string ⟨#[124]⟩, .string ⟨#[61]⟩, .string ⟨#[60]⟩, .string ⟨#[43]⟩, .string ⟨#[45]⟩, .string ⟨#[42]⟩, .string ⟨#[95]⟩] 128)).drewN q ∧ Hid (∀ i, i < m → atL (s.toList.drop k) (signWords.getD i []) = false)) (fun v _ => 13 - (intOf v).toNat)
    case atStart => exact ⟨0, 0, by omega, rfl, rfl, hide (by intro i hi; omega)⟩
    case round =>
      obtain ⟨m, q, hm, rfl, rfl, HM⟩ := hrel
      have hbb := below_drewN (hb1.alloc hb1.size (.cells #[.string ⟨#[45, 62]⟩, .string ⟨#[58, 58]⟩, .string ⟨#[59, 59]⟩, .string ⟨#[40]⟩, .string ⟨#[41]⟩, .string ⟨#[44]⟩, .string ⟨#[124]⟩, .string ⟨#[61]⟩, .string ⟨#[60]⟩, .string ⟨#[43]⟩, .string ⟨#[45]⟩, .string ⟨#[42]⟩, .string ⟨#[95]⟩] 128)) q
      by_cases hlt13 : m < 13
      · have hc := signs_cell w1 128 m hlt13
        have HA := hide (atB_atL s k (signWords.getD m []))
        have hle := sw_le m
        have HFm := hide (HF.out m hlt13)
        have hz := size_toList ⟨(signWords.getD m []).toArray⟩
        rw [ByteArray.toList_mk] at hz
        generalize hsv : signWords.getD m [] = sv at *
        have HSV := hide hsv; clear hsv
        have HSZ := hide (show (ByteArray.mk sv.toArray).size ≤ 1000000 by omega)
        have hz1 : ((ByteArray.mk sv.toArray).size : Int) ≤ 2 := by omega
        have HZ := hide hz; clear hz
        cases hat : atL (s.toList.drop k) sv
        · have HAT := hide hat; clear hat
          rw [HAT.out] at HA
          go_wp2_with (first | (go_at_call 76; refine (at_any _ _ _ _ (by omega) (by omega) hs HSZ.out).mono ?_; rintro e w' ⟨rfl, rfl⟩; rw [Int.toNat_natCast, HA.out]))
          go_roundw
          case rel => exact ⟨m + 1, q, by omega, by go_num, rfl, hide (by
            intro i hi
            rcases Nat.lt_succ_iff_lt_or_eq.1 hi with h | rfl
            · exact HM.out i h
            · rw [HSV.out]; exact HAT.out)⟩
          case measure => simp [intOf]; omega
        · have HAT := hide hat; clear hat
          rw [HAT.out] at HA
          go_wp2_with (first | (go_at_call 76; refine (at_any _ _ _ _ (by omega) (by omega) hs HSZ.out).mono ?_; rintro e w' ⟨rfl, rfl⟩; rw [Int.toNat_natCast, HA.out]))
          have hwrap : IntKind.i64.wrap ((k : Int) + sv.length) = (k : Int) + sv.length := IntWalk.i64_in _ (by omega)
          go_quiet (fail)
          clear hwrap
          go_wp2
          go_ret2
          have hf := HFm.out HAT.out (fun i hi => HM.out i hi)
          have hpos : 0 < sv.length := by rw [← HSV.out]; exact sw_pos m hlt13
          refine one_close' sv.length (by rw [HT.out, hf, if_pos hpos]) hpos rfl (below_drewN hbb _)
      · go_wp2
        go_ret2
        have hn := HN.out (fun i hi => HM.out i (by omega))
        refine one_none (by rw [HT.out, hn]; rfl) hbb

theorem one_any (s : ByteArray) (a : Int) (w : World) (h0 : 0 ≤ a) (h1 : a < s.size) (hs : s.size ≤ 1000000) :
    Calls Try.prog 78 #[.string s, .int .i64 a] w fun e w' => e = .returned (.tuple #[.int .i64 (tokenL (s.toList.drop a.toNat)).1, .int .i64 (oneE a.toNat (tokenL (s.toList.drop a.toNat)) : Nat)]) ∧ Below w.heap.size w w' := by
  obtain ⟨k, rfl⟩ := Int.eq_ofNat_of_zero_le h0
  rw [Int.toNat_natCast]
  have hk : k < s.size := by omega
  cases g1 : (smallB (byt s k) || byt s k == 95)
  · cases g2 : greatB (byt s k)
    · cases g3 : digitB (byt s k)
      · by_cases g4 : byt s k = 39 ∧ k + 1 < s.size ∧ smallB (byt s (k + 1)) = true
        · exact one_tick s k w hk hs g4.1 g4.2.1 g4.2.2
        · exact one_sign s k w hs ⟨hk, g1, g2, g3, fun h h' => by
            cases h5 : smallB (byt s (k + 1))
            · rfl
            · exact absurd ⟨h, h', h5⟩ g4⟩
      · exact one_digit s k w hk hs g1 g2 g3
    · exact one_great s k w hk hs g1 g2
  · exact one_word s k w hk hs g1
end Go.Proofs.Ytafpbdmggnfdnaa

/- The contract of the reference's Lex. -/
namespace Go.Proofs.Ytafpbdmggnfdnaa
open Go.RowKit
set_option linter.unusedVariables false

theorem wordKindL_pos (l : Bs) : wordKindL l ≠ 0 := by unfold wordKindL; (repeat' split) <;> decide
theorem nm_first (c : UInt8) (h : (smallB c.toNat || (c.toNat : Int) == 95) = true ∨ greatB c.toNat = true) : nm true c = true := by
  unfold nm nameB
  rcases h with h | h
  · revert h; cases smallB c.toNat <;> simp
    intro h; simp [h]
  · simp [h]
theorem tok_zero (l : Bs) : (tokenL l).1 = 0 ↔ (tokenL l).2 = 0 := by
  rcases l with _ | ⟨c, r⟩
  · simp [tokenL]
  · simp only [tokenL]
    split
    · rename_i h
      have := nm_first c (.inl h)
      simp [wordKindL_pos, runL_cons, this]
    · split
      · rename_i h
        have := nm_first c (.inr h)
        simp [runL_cons, this]
      · split
        · simp
        · split
          · rcases r with _ | ⟨d, r⟩
            · simp
            · dsimp only
              split
              · simp
              · simp
          · split
            · simp; omega
            · simp
theorem opens_tok (l : Bs) (h : opensL l = true) : 0 < (tokenL l).2 := by
  rcases l with _ | ⟨c, _ | ⟨d, r⟩⟩
  · simp [opensL] at h
  · simp [opensL] at h
  · simp [opensL] at h
    have hc : c = 40 := by rw [← UInt8.toNat_inj]; have := h.1; simp; omega
    have hd : d = 42 := by rw [← UInt8.toNat_inj]; have := h.2; simp; omega
    subst hc hd
    simp [tokenL, smallB, greatB, digitB, signL, sign1B, sign2B]
theorem noL_at' (s : ByteArray) (k : Nat) (h : k < s.size) : noL (s.toList.drop k) = if whiteB (byt s k) || !((tokenL (s.toList.drop k)).1 == 0) then 0 else 1 + noL (s.toList.drop (k + 1)) := by
  rw [noL_at s k h]
  have h1 := tok_zero (s.toList.drop k)
  have h2 := opens_tok (s.toList.drop k)
  congr 1
  rw [Bool.eq_iff_iff]
  simp only [Bool.or_eq_true, decide_eq_true_eq, Bool.not_eq_true', beq_eq_false_iff_ne, ne_eq, h1]
  simp
  constructor
  · rintro ((h | h) | h)
    · exact .inl h
    · have := h2 h; right; omega
    · right; omega
  · rintro (h | h)
    · exact .inl (.inl h)
    · right; omega

theorem remE_eq (s : ByteArray) (k : Nat) : remE s k = if (remL (s.toList.drop k) 0 0).2 then k + (remL (s.toList.drop k) 0 0).1 else 0 := rfl
theorem own_below {w w' : World} {base : Nat} {e : TypeId} {size n : Nat} {v : Value} {xs : List Value} (h : w.ownsRow base e size v n xs) (hb : Below w.heap.size w w') : w'.ownsRow base e size v n xs :=
  h.kept (row := none) ⟨hb.os, hb.tape, hb.output, hb.size, fun i hi _ => hb.block i hi⟩ (by cases v.ownBlock <;> simp)
theorem LexRel.below' {s : ByteArray} {w wr w1 : World} {v : Value} {k : Nat} {done : List Tk} (h : LexRel s w v k done wr) (hb : Below wr.heap.size wr w1) : LexRel s w v k done w1 :=
  ⟨h.le, h.eq, h.len, own_below h.own hb, h.below.trans (hb.mono h.below.size)⟩

set_option maxRecDepth 100000 in
set_option maxHeartbeats 4000000 in
theorem rlex_any (s : ByteArray) (w : World) (hs : s.size ≤ 1000000) :
    Calls Try.prog 66 #[.string s] w fun e w' => ∃ v, e = .returned v ∧ w'.ownsRow w.heap.size 122 3 v (lx s.toList 0).length (cellsOf (lx s.toList 0)) ∧ Below w.heap.size w w' := by
  obtain ⟨i0, hi, hz0, hz1, hz2⟩ := info_parts tokInfo
  have Hi := hide hi; have Hz0 := hide hz0; have Hz1 := hide hz1; have Hz2 := hide hz2; clear hi hz0 hz1 hz2
  have HAt : Hid (∀ j, atB s j ⟨#[40, 42]⟩ = opensL (s.toList.drop j)) := atB_opens s
  go_enter Try.func66, Try.ntmps66
  go_wp2
  go_loopw [3, 4] (fun v a wr => ∃ k done, a = .int .i64 (k : Nat) ∧ LexRel s w v k done wr) (fun _ a _ => s.size - (intOf a).toNat)
  case atStart =>
    exact ⟨0, [], rfl, ⟨Nat.zero_le _, by simp, by simp, ⟨by simp [cellsOf], .inr ⟨w.heap.size, 0, #[], rfl, Nat.le_refl _, heap_alloc_new w _, by simp, by simp [maxLen], by simp, by simp [cellsOf]⟩⟩, (Below.refl _ _).alloc (Nat.le_refl _) _⟩⟩
  case round =>
    obtain ⟨k, done, rfl, HR⟩ := hrel
    have hkl := HR.len
    have hkm := HR.le
    by_cases hlt : k < s.size
    · have e1 := byt_eq s k hlt
      have HW := hide (lx_at_white s k hlt)
      have HRm := hide (lx_at_remark s k hlt)
      have HOp := hide (lx_at_open s k hlt)
      have HPc := hide (lx_at_piece s k hlt)
      have HPa := hide (pieceL_at s k hlt)
      have hpl := pieceL_at_le s k hlt
      have hrl := (remL_ge (s.toList.drop k) 0 0).2
      rw [List.length_drop, size_toList] at hrl
      have HRp := hide (remL_pos (s.toList.drop k))
      have HRn := hide (remL_not (s.toList.drop k) 0 0)
      rw [List.length_drop, size_toList] at HRn
      have HE0 := hide (remE_eq s k)
      have htz := tok_zero (s.toList.drop k)
      generalize byt s k = x at *
      generalize hM : remL (s.toList.drop k) 0 0 = M at *
      have HM := hide hM; clear hM
      generalize hT : tokenL (s.toList.drop k) = T at *
      have HT := hide hT; clear hT
      generalize hO : opensL (s.toList.drop k) = O at *
      have HO := hide hO; clear hO
      generalize hP : pieceL (s.toList.drop k) = P at *
      have HP := hide hP; clear hP
      obtain ⟨t1, t2⟩ := T
      obtain ⟨p1, p2⟩ := P
      obtain ⟨m1, m2⟩ := M
      simp only at hpl hrl htz
      cases hw : whiteB x
      · cases O
        · rcases Nat.eq_zero_or_pos t2 with ht | ht
          · obtain rfl : t1 = 0 := htz.2 ht
            subst ht
            have hp := HPa.out
            rw [if_pos rfl] at hp
            simp only [Prod.mk.injEq] at hp
            obtain ⟨rfl, rfl⟩ := hp
            have HE := hide (HPc.out hw rfl)
            clear HPa HPc HOp HRm HW htz HP
            go_wp2_with (first | (go_at_call 75; refine (rwhite_any _ _).mono ?_; rintro e w' ⟨rfl, rfl⟩) | (go_at_call 76; refine (at_any _ _ _ _ (by omega) (by omega) hs (by decide)).mono ?_; rintro e w' ⟨rfl, rfl⟩; rw [Int.toNat_natCast, HAt.out, HO.out]) | (go_at_call 78; refine (one_any _ _ _ (by omega) (by omega) hs).mono ?_; rintro e w1 ⟨rfl, hb1⟩; rw [Int.toNat_natCast, HT.out]; have HR1 := HR.below' hb1))
            obtain ⟨wo, rfl⟩ : ∃ wo : World, wo = wr := ⟨_, rfl⟩
            go_loopw [7] (fun v wr => ∃ j : Nat, k + 1 ≤ j ∧ j ≤ s.size ∧ v = .int .i64 j ∧ Hid (k + 1 + noL (s.toList.drop (k + 1)) = j + noL (s.toList.drop j)) ∧ LexRel s w u3 k done wr) (fun v _ => s.size - (intOf v).toNat)
            case atStart => exact ⟨k + 1, Nat.le_refl _, by omega, by go_num, rfl, HR1⟩
            case round =>
              obtain ⟨j, hkj, hj, rfl, HI, HR2⟩ := hrel
              clear e1
              by_cases hltj : j < s.size
              · have e2 := byt_eq s j hltj
                have HS := hide (noL_at' s j hltj)
                generalize byt s j = y at *
                generalize hTj : tokenL (s.toList.drop j) = Tj at *
                have HTj := hide hTj; clear hTj
                obtain ⟨tj1, tj2⟩ := Tj
                cases hwy : whiteB y
                · cases htj : (tj1 == 0)
                  · have HZ : Hid (k + 1 + noL (s.toList.drop (k + 1)) = j) := hide (by rw [HI.out, HS.out, if_pos (by simp [hwy, htj])]; rfl)
                    have htj' : (tj1 != 0) = true := by simpa [bne] using htj
                    clear htj
                    go_wp2_with (first | (go_at_call 75; refine (rwhite_any _ _).mono ?_; rintro e w' ⟨rfl, rfl⟩) | (go_at_call 78; refine (one_any _ _ _ (by omega) (by omega) hs).mono ?_; rintro e w2 ⟨rfl, hb2⟩; rw [Int.toNat_natCast, HTj.out]; have HR3 := HR2.below' hb2) | (at_builtin; refine wpList_append_own _ rfl (.tmp 68) (.tmp 73) 119 rfl w.heap.size 122 i0 _ 3 24 Try.underlying119 Hi.out Hz0.out Hz1.out Hz2.out rfl (by decide) _ done.length (cellsOf done) rfl (HR3.own.alloc _) ⟨w2.heap.size, 0, none⟩ 1 1 [.int .i64 7, .int .i64 k, .int .i64 (j : Int)] rfl rfl (cell_three_new _ _ _ _ _) (by intro u hu; simp at hu; rcases hu with rfl | rfl | rfl <;> rfl) (by unfold maxLen; omega) (by omega) (by have := HR3.below.size; simp; omega) ?_; intro v' w9 hown hgrow hnil))
                    have HR9 := HR3.push (7, (k : Int), (j : Int)) (by simpa [cell3] using hown) hgrow (k1 := j) (by omega) hj (by rw [HE.out]; have hz := HZ.out; rw [show k + (1 + noL (s.toList.drop (k + 1))) = j by omega]; simp only [Prod.mk.injEq, List.cons.injEq, and_true, true_and]; omega)
                    go_roundw
                    case rel => exact ⟨j, _, rfl, HR9⟩
                    case measure => simp [intOf]; omega
                  · obtain rfl : tj1 = 0 := by simpa using htj
                    clear htj
                    go_wp2_with (first | (go_at_call 75; refine (rwhite_any _ _).mono ?_; rintro e w' ⟨rfl, rfl⟩) | (go_at_call 78; refine (one_any _ _ _ (by omega) (by omega) hs).mono ?_; rintro e w2 ⟨rfl, hb2⟩; rw [Int.toNat_natCast, HTj.out]; have HR3 := HR2.below' hb2))
                    go_roundw
                    case rel => exact ⟨j + 1, by omega, by omega, by go_num, hide (by rw [HI.out, HS.out, if_neg (by simp [hwy])]; omega), HR3⟩
                    case measure => simp [intOf]; omega
                · have HZ : Hid (k + 1 + noL (s.toList.drop (k + 1)) = j) := hide (by rw [HI.out, HS.out, if_pos (by simp [hwy])]; rfl)
                  go_wp2_with (first | (go_at_call 75; refine (rwhite_any _ _).mono ?_; rintro e w' ⟨rfl, rfl⟩) | (at_builtin; refine wpList_append_own _ rfl (.tmp 68) (.tmp 73) 119 rfl w.heap.size 122 i0 _ 3 24 Try.underlying119 Hi.out Hz0.out Hz1.out Hz2.out rfl (by decide) _ done.length (cellsOf done) rfl (HR2.own.alloc _) ⟨wr.heap.size, 0, none⟩ 1 1 [.int .i64 7, .int .i64 k, .int .i64 (j : Int)] rfl rfl (cell_three_new _ _ _ _ _) (by intro u hu; simp at hu; rcases hu with rfl | rfl | rfl <;> rfl) (by unfold maxLen; omega) (by omega) (by have := HR2.below.size; simp; omega) ?_; intro v' w9 hown hgrow hnil))
                  have HR9 := HR2.push (7, (k : Int), (j : Int)) (by simpa [cell3] using hown) hgrow (k1 := j) (by omega) hj (by rw [HE.out]; have hz := HZ.out; rw [show k + (1 + noL (s.toList.drop (k + 1))) = j by omega]; simp only [Prod.mk.injEq, List.cons.injEq, and_true, true_and]; omega)
                  go_roundw
                  case rel => exact ⟨j, _, rfl, HR9⟩
                  case measure => simp [intOf]; omega
              · have HZ : Hid (k + 1 + noL (s.toList.drop (k + 1)) = j) := hide (by rw [HI.out, noL_end s j (by omega)]; rfl)
                go_wp2_with (first | (go_at_call 75; refine (rwhite_any _ _).mono ?_; rintro e w' ⟨rfl, rfl⟩) | (at_builtin; refine wpList_append_own _ rfl (.tmp 68) (.tmp 73) 119 rfl w.heap.size 122 i0 _ 3 24 Try.underlying119 Hi.out Hz0.out Hz1.out Hz2.out rfl (by decide) _ done.length (cellsOf done) rfl (HR2.own.alloc _) ⟨wr.heap.size, 0, none⟩ 1 1 [.int .i64 7, .int .i64 k, .int .i64 (j : Int)] rfl rfl (cell_three_new _ _ _ _ _) (by intro u hu; simp at hu; rcases hu with rfl | rfl | rfl <;> rfl) (by unfold maxLen; omega) (by omega) (by have := HR2.below.size; simp; omega) ?_; intro v' w9 hown hgrow hnil))
                have HR9 := HR2.push (7, (k : Int), (j : Int)) (by simpa [cell3] using hown) hgrow (k1 := j) (by omega) hj (by rw [HE.out]; have hz := HZ.out; rw [show k + (1 + noL (s.toList.drop (k + 1))) = j by omega]; simp only [Prod.mk.injEq, List.cons.injEq, and_true, true_and]; omega)
                go_roundw
                case rel => exact ⟨j, _, rfl, HR9⟩
                case measure => simp [intOf]; omega
          · have ht1 : ¬ t1 = 0 := by intro h; have := htz.1 h; omega
            have hp := HPa.out
            rw [if_neg (show ¬ t2 = 0 by omega)] at hp
            simp only [Prod.mk.injEq] at hp
            obtain ⟨rfl, rfl⟩ := hp
            have HE := hide (HPc.out hw rfl)
            clear HPa HPc HOp HRm HW htz
            have ht0 : (p1 == 0) = false := by simpa using ht1
            have hone : oneE k (p1, p2) = k + p2 := by unfold oneE; rw [if_neg (by simp only; omega)]
            go_wp2_with (first | (go_at_call 75; refine (rwhite_any _ _).mono ?_; rintro e w' ⟨rfl, rfl⟩) | (go_at_call 76; refine (at_any _ _ _ _ (by omega) (by omega) hs (by decide)).mono ?_; rintro e w' ⟨rfl, rfl⟩; rw [Int.toNat_natCast, HAt.out, HO.out]) | (go_at_call 78; refine (one_any _ _ _ (by omega) (by omega) hs).mono ?_; rintro e w1 ⟨rfl, hb1⟩; rw [Int.toNat_natCast, HT.out]; have HR1 := HR.below' hb1) | (at_builtin; refine wpList_append_own _ rfl (.tmp 68) (.tmp 73) 119 rfl w.heap.size 122 i0 _ 3 24 Try.underlying119 Hi.out Hz0.out Hz1.out Hz2.out rfl (by decide) _ done.length (cellsOf done) rfl (HR1.own.alloc _) ⟨w1.heap.size, 0, none⟩ 1 1 [.int .i64 p1, .int .i64 k, .int .i64 ((k : Int) + p2)] rfl rfl (cell_three_new _ _ _ _ _) (by intro u hu; simp at hu; rcases hu with rfl | rfl | rfl <;> rfl) (by unfold maxLen; omega) (by omega) (by have := HR1.below.size; simp; omega) ?_; intro v' w9 hown hgrow hnil))
            have HR2 := HR1.push (p1, (k : Int), (k : Int) + p2) (by simpa [cell3] using hown) hgrow (k1 := k + p2) (by omega) hpl HE.out
            go_roundw
            case rel => exact ⟨k + p2, _, by go_num, HR2⟩
            case measure => simp [intOf]; omega
        · have hrp := HRp.out rfl 0 0
          rw [HM.out] at hrp
          simp only at hrp
          cases m2
          · have HE := hide (HOp.out hw rfl rfl)
            have hrn := HRn.out rfl
            simp only at hrn
            rw [if_neg (by simp)] at HE0
            clear HPa HPc HOp HRm HW HRn
            have hsz : (k : Int) + m1 = s.size := by omega
            have HSZ := hide hsz; clear hsz hrn
            go_wp2_with (first | (go_at_call 75; refine (rwhite_any _ _).mono ?_; rintro e w' ⟨rfl, rfl⟩) | (go_at_call 76; refine (at_any _ _ _ _ (by omega) (by omega) hs (by decide)).mono ?_; rintro e w' ⟨rfl, rfl⟩; rw [Int.toNat_natCast, HAt.out, HO.out]) | (go_at_call 77; refine (rremark_at s k _ (by omega) hs).mono ?_; rintro e w' ⟨rfl, rfl⟩; rw [HE0.out]) | (at_builtin; refine wpList_append_own _ rfl (.tmp 29) (.tmp 34) 119 rfl w.heap.size 122 i0 _ 3 24 Try.underlying119 Hi.out Hz0.out Hz1.out Hz2.out rfl (by decide) _ done.length (cellsOf done) rfl (HR.own.alloc _) ⟨wr.heap.size, 0, none⟩ 1 1 [.int .i64 7, .int .i64 k, .int .i64 s.size] rfl rfl (cell_three_new _ _ _ _ _) (by intro u hu; simp at hu; rcases hu with rfl | rfl | rfl <;> rfl) (by unfold maxLen; omega) (by omega) (by have := HR.below.size; simp; omega) ?_; intro v' w9 hown hgrow hnil))
            have HR1 := HR.push (k1 := s.size) (7, (k : Int), (s.size : Int)) (by simpa [cell3] using hown) hgrow hlt (Nat.le_refl _) (by rw [HE.out, List.drop_of_length_le (i := s.size) (by rw [size_toList]; omega), lx_nil, ← HSZ.out]; simp)
            go_ret
            have h := HR1.eq
            rw [List.drop_of_length_le (i := s.size) (by rw [size_toList]; omega), lx_nil, List.append_nil] at h
            rw [h]
            exact ⟨_, rfl, HR1.own, HR1.below⟩
          · have HE := hide (HRm.out hw rfl rfl)
            rw [if_pos rfl] at HE0
            have hnz : (((k + m1 : Nat) : Int) == 0) = false := by simp; omega
            clear HPa HPc HOp HRm HW HRn
            go_wp2_with (first | (go_at_call 75; refine (rwhite_any _ _).mono ?_; rintro e w' ⟨rfl, rfl⟩) | (go_at_call 76; refine (at_any _ _ _ _ (by omega) (by omega) hs (by decide)).mono ?_; rintro e w' ⟨rfl, rfl⟩; rw [Int.toNat_natCast, HAt.out, HO.out]) | (go_at_call 77; refine (rremark_at s k _ (by omega) hs).mono ?_; rintro e w' ⟨rfl, rfl⟩; rw [HE0.out]))
            go_roundw
            case rel => exact ⟨k + m1, done, by go_num, ⟨by omega, by rw [HR.eq, HE.out], by omega, HR.own, HR.below⟩⟩
            case measure => simp [intOf]; omega
      · have HWE := hide (HW.out hw)
        clear HW HRm HOp HPc HPa
        go_wp2_with (first | (go_at_call 75; refine (rwhite_any _ _).mono ?_; rintro e w' ⟨rfl, rfl⟩))
        go_roundw
        case rel => exact ⟨k + 1, done, by go_num, ⟨by omega, by rw [HR.eq, HWE.out], by omega, HR.own, HR.below⟩⟩
        case measure => simp [intOf]; omega
    · go_wp2
      go_ret
      have h := HR.eq
      rw [List.drop_of_length_le (i := k) (by rw [size_toList]; omega), lx_nil, List.append_nil] at h
      rw [h]
      exact ⟨_, rfl, HR.own, HR.below⟩
end Go.Proofs.Ytafpbdmggnfdnaa

/- The contracts of the reference's Word, Is and Kind, and those of lex.Is with the memory that they leave written out. -/
namespace Go.Proofs.Ytafpbdmggnfdnaa
open Go.RowKit
set_option linter.unusedVariables false

theorem kindR_one (u : Bs) (t : Tk) (h : lx u 0 = [t]) : kindR u = if t.2.1 = 0 ∧ t.2.2 = u.length ∧ t.1 ≠ 7 then t.1 else 0 := by unfold kindR; rw [h]
theorem kindR_other (u : Bs) (h : (lx u 0).length ≠ 1) : kindR u = 0 := by
  unfold kindR
  split
  · rename_i t ht; rw [ht] at h; simp at h
  · rfl
set_option maxHeartbeats 2000000 in
theorem rkind_any (u : ByteArray) (w : World) (hu : u.size ≤ 1000000) :
    Calls Try.prog 57 #[.string u] w fun e w' => e = .returned (.int .i64 (kindL u.toList)) ∧ Below w.heap.size w w' := by
  rw [← kind_same]
  have hn := lx_length u.toList 0
  rw [size_toList] at hn
  by_cases h1 : (lx u.toList 0).length = 1
  · obtain ⟨t, ht⟩ := List.length_eq_one_iff.1 h1
    have HK := hide (kindR_one u.toList t ht)
    have HL := hide (rlex_any u w hu)
    rw [ht] at HL
    rw [size_toList] at HK
    generalize kindR u.toList = K at *
    obtain ⟨x1, x2, x3⟩ := t
    simp only at HK
    clear h1 ht hn
    rcases (show (x2 != 0) = true ∨ (x2 = 0 ∧ (x3 != (u.size : Int)) = true) ∨ (x2 = 0 ∧ x3 = u.size ∧ x1 = 7) ∨ (x2 = 0 ∧ x3 = u.size ∧ (x1 == 7) = false) by
      simp only [bne_iff_ne, beq_eq_false_iff_ne]; omega) with g | ⟨rfl, g⟩ | ⟨rfl, rfl, rfl⟩ | ⟨rfl, rfl, g⟩
    all_goals
      go_enter Try.func57, Try.ntmps57
      go_wp2_with fail
      refine HL.out.mono ?_
      rintro e w2 ⟨v2, rfl, hown2, hb2⟩
      obtain ⟨A, c, rfl, ha⟩ := Toks.of_own hown2
      obtain ⟨b, o, rfl, _, a1, a2, a3⟩ := ha.at_ 0 (by simp)
      simp only [List.getElem_cons_zero, Nat.zero_mul, Nat.add_zero] at a1 a2 a3
      have hb3 := hide hb2; clear hb2 hown2 ha
      go_wp2
      go_ret
      refine ⟨ret_int ?_, hb3.out⟩
      rw [HK.out]
      clear HK HL hb3
      split <;> first | rfl | (simp_all; done)
  · have HK := hide (kindR_other u.toList h1)
    generalize kindR u.toList = K at *
    have hne : (((lx u.toList 0).length : Int) != 1) = true := by simp only [bne_iff_ne]; omega
    generalize hxs : lx u.toList 0 = xs at *
    have HL := hide (rlex_any u w hu)
    rw [hxs] at HL
    clear hxs h1
    go_enter Try.func57, Try.ntmps57
    go_wp2_with fail
    refine HL.out.mono ?_
    rintro e w2 ⟨v2, rfl, hown2, hb2⟩
    obtain ⟨A, c, rfl, ha⟩ := Toks.of_own hown2
    have hb3 := hide hb2; clear hb2 hown2 ha
    go_wp2
    go_ret
    exact ⟨ret_int HK.out.symm, hb3.out⟩
end Go.Proofs.Ytafpbdmggnfdnaa
