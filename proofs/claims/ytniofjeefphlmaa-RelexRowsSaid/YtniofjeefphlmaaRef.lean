/- The contracts of the reference lexer's at, remark, words, signs. -/
import Derived.Test.YtniofjeefphlmaaToks
namespace Go.Proofs.Ytniofjeefphlmaa
open Go.RowKit
set_option linter.unusedVariables false

def atB (s : ByteArray) (k : Nat) (u : ByteArray) : Bool := (s.toList.drop k).take u.size == u.toList
theorem atB_long (s : ByteArray) (k : Nat) (u : ByteArray) (h : ¬ k + u.size ≤ s.size) (hk : k ≤ s.size) : atB s k u = false := by
  unfold atB
  rw [beq_eq_false_iff_ne]
  intro e
  have := congrArg List.length e
  rw [List.length_take, List.length_drop, size_toList, size_toList] at this
  omega
set_option maxHeartbeats 400000 in
theorem at_any (s : ByteArray) (a : Int) (u : ByteArray) (w : World) (h0 : 0 ≤ a) (h1 : a ≤ s.size) (hs : s.size ≤ 1000000) (hu : u.size ≤ 1000000) :
    Calls Try.prog 37 #[.string s, .int .i64 a, .string u] w fun e w' => e = .returned (.bool (atB s a.toNat u)) ∧ w = w' := by
  obtain ⟨k, rfl⟩ := Int.eq_ofNat_of_zero_le h0
  rw [Int.toNat_natCast]
  by_cases h : k + u.size ≤ s.size
  · have HX := hide (extract_take s k u.size)
    go_enter Try.func37, Try.ntmps37
    go_wp2
    go_ret
    exact ⟨ret_bool (by unfold atB; rw [← HX.out]), rfl⟩
  · have HX := hide (atB_long s k u h (by omega))
    go_enter Try.func37, Try.ntmps37
    go_wp2
    go_ret
    exact ⟨ret_bool HX.out.symm, rfl⟩
theorem atB_opens (s : ByteArray) (k : Nat) : atB s k ⟨#[40, 42]⟩ = opensL (s.toList.drop k) := by
  unfold atB
  generalize s.toList.drop k = l
  have h2 : (ByteArray.mk #[40, 42]).toList = [40, 42] := ByteArray.toList_mk [40, 42]
  have h3 : (ByteArray.mk #[40, 42]).size = 2 := rfl
  rw [h2, h3]
  rcases l with _ | ⟨c, _ | ⟨d, r⟩⟩
  · rfl
  · rw [Bool.eq_iff_iff]; simp [opensL]
  · rw [Bool.eq_iff_iff]; simp [opensL, ← UInt8.toNat_inj]; omega
theorem atB_closes (s : ByteArray) (k : Nat) : atB s k ⟨#[42, 41]⟩ = closesL (s.toList.drop k) := by
  unfold atB
  generalize s.toList.drop k = l
  have h2 : (ByteArray.mk #[42, 41]).toList = [42, 41] := ByteArray.toList_mk [42, 41]
  have h3 : (ByteArray.mk #[42, 41]).size = 2 := rfl
  rw [h2, h3]
  rcases l with _ | ⟨c, _ | ⟨d, r⟩⟩
  · rfl
  · rw [Bool.eq_iff_iff]; simp [closesL]
  · rw [Bool.eq_iff_iff]; simp [closesL, ← UInt8.toNat_inj]; omega

/-- Where the reference says that a remark ends; 0: it doesn't. -/
def remE (s : ByteArray) (k : Nat) : Nat := if (remL (s.toList.drop k) 0 0).2 then k + (remL (s.toList.drop k) 0 0).1 else 0
set_option maxHeartbeats 1000000 in
theorem rremark_at (s : ByteArray) (k : Nat) (w : World) (hk : k ≤ s.size) (hs : s.size ≤ 1000000) :
    Calls Try.prog 38 #[.string s, .int .i64 k] w fun e w' => e = .returned (.int .i64 (remE s k : Nat)) ∧ w = w' := by
  have HA : Hid (∀ j, atB s j ⟨#[40, 42]⟩ = opensL (s.toList.drop j)) := atB_opens s
  have HC : Hid (∀ j, atB s j ⟨#[42, 41]⟩ = closesL (s.toList.drop j)) := atB_closes s
  go_enter Try.func38, Try.ntmps38
  go_wp2
  go_loop [1, 5] (fun v u => ∃ (n : Nat) (d : Int), k + n ≤ s.size ∧ v = .int .i64 ((k : Int) + n) ∧ u = .int .i64 d ∧ -(n : Int) ≤ d ∧ d ≤ n ∧ Hid (remL (s.toList.drop k) 0 0 = remL (s.toList.drop (k + n)) d n)) (fun v _ => s.size - (intOf v).toNat)
  case atStart => exact ⟨0, 0, by omega, by simp, rfl, by omega, by omega, rfl⟩
  case round =>
    obtain ⟨n, d, hn, rfl, rfl, hd1, hd2, HI⟩ := hrel
    by_cases hlt : k + n < s.size
    · have HS := hide (remL_at s (k + n) d n hlt)
      have ho := opens_lt s (k + n)
      have hc := closes_lt s (k + n)
      have h63 : (k : Int) + n < s.size := by omega
      cases h1 : opensL (s.toList.drop (k + n))
      · cases h2 : closesL (s.toList.drop (k + n))
        · clear ho hc
          have H1 := hide h1; have H2 := hide h2; clear h1 h2
          go_wp2_with (go_at_call 37; refine (at_any _ _ _ _ (by omega) (by omega) hs (by decide)).mono ?_; rintro e w' ⟨rfl, rfl⟩; rw [show ((k : Int) + n).toNat = k + n from by omega]; first | rw [HA.out, H1.out] | rw [HC.out, H2.out])
          go_round
          case rel => exact ⟨n + 1, d, by omega, by go_num, rfl, by omega, by omega, hide (by rw [HI.out, HS.out, H1.out, H2.out]; rfl)⟩
          case measure => simp [intOf]; omega
        · have hc' := hc h2
          clear ho hc
          have H1 := hide h1; have H2 := hide h2; clear h1 h2
          by_cases hd : d = 1
          · subst hd
            go_wp2_with (go_at_call 37; refine (at_any _ _ _ _ (by omega) (by omega) hs (by decide)).mono ?_; rintro e w' ⟨rfl, rfl⟩; rw [show ((k : Int) + n).toNat = k + n from by omega]; first | rw [HA.out, H1.out] | rw [HC.out, H2.out])
            go_ret
            have h : remL (s.toList.drop k) 0 0 = (n + 2, true) := by rw [HI.out, HS.out, H1.out, H2.out]; rfl
            exact ⟨ret_int (by unfold remE; rw [h]; simp; omega), rfl⟩
          · have hd' : (d - 1 == 0) = false := by simp; omega
            go_wp2_with (go_at_call 37; refine (at_any _ _ _ _ (by omega) (by omega) hs (by decide)).mono ?_; rintro e w' ⟨rfl, rfl⟩; rw [show ((k : Int) + n).toNat = k + n from by omega]; first | rw [HA.out, H1.out] | rw [HC.out, H2.out])
            go_round
            case rel => exact ⟨n + 2, d - 1, by omega, by go_num, rfl, by omega, by omega, hide (by rw [HI.out, HS.out, H1.out, H2.out]; simp [show ¬ d - 1 = 0 by omega, Nat.add_assoc])⟩
            case measure => simp [intOf]; omega
      · have ho' := ho h1
        clear ho hc
        have H1 := hide h1; clear h1
        go_wp2_with (go_at_call 37; refine (at_any _ _ _ _ (by omega) (by omega) hs (by decide)).mono ?_; rintro e w' ⟨rfl, rfl⟩; rw [show ((k : Int) + n).toNat = k + n from by omega]; rw [HA.out, H1.out])
        go_round
        case rel => exact ⟨n + 2, d + 1, by omega, by go_num, rfl, by omega, by omega, hide (by rw [HI.out, HS.out, H1.out]; simp [Nat.add_assoc])⟩
        case measure => simp [intOf]; omega
    · have h63 : ¬ (k : Int) + n < s.size := by omega
      go_wp2
      go_ret
      have h := HI.out
      rw [remL_end s (k + n) _ _ (by omega)] at h
      exact ⟨ret_int (by unfold remE; rw [h]; rfl), rfl⟩

def signWords : List Bs := [[45, 62], [58, 58], [59, 59], [40], [41], [44], [124], [61], [60], [43], [45], [42], [95]]
set_option maxHeartbeats 400000 in
theorem words_any (w : World) : Calls Try.prog 50 #[] w fun e w' => e = .returned (.agg #[.string ⟨#[108, 101, 116]⟩, .string ⟨#[114, 101, 99]⟩, .string ⟨#[105, 110]⟩, .string ⟨#[102, 117, 110]⟩, .string ⟨#[105, 102]⟩, .string ⟨#[116, 104, 101, 110]⟩, .string ⟨#[101, 108, 115, 101]⟩, .string ⟨#[109, 97, 116, 99, 104]⟩, .string ⟨#[119, 105, 116, 104]⟩, .string ⟨#[116, 121, 112, 101]⟩, .string ⟨#[111, 102]⟩, .string ⟨#[116, 114, 117, 101]⟩, .string ⟨#[102, 97, 108, 115, 101]⟩]) ∧ Below w.heap.size w w' := by
  go_enter Try.func50, Try.ntmps50
  go_wp2
  exact bodyPost_ret (v := .agg #[.string ⟨#[108, 101, 116]⟩, .string ⟨#[114, 101, 99]⟩, .string ⟨#[105, 110]⟩, .string ⟨#[102, 117, 110]⟩, .string ⟨#[105, 102]⟩, .string ⟨#[116, 104, 101, 110]⟩, .string ⟨#[101, 108, 115, 101]⟩, .string ⟨#[109, 97, 116, 99, 104]⟩, .string ⟨#[119, 105, 116, 104]⟩, .string ⟨#[116, 121, 112, 101]⟩, .string ⟨#[111, 102]⟩, .string ⟨#[116, 114, 117, 101]⟩, .string ⟨#[102, 97, 108, 115, 101]⟩]) (by simp [results, Try.results50, go_sem]) rfl ⟨rfl, (Below.refl _ _).alloc (Nat.le_refl _) _⟩
theorem words_cell (w : World) (t : TypeId) (k : Nat) (h : k < 13) : (w.alloc (.cells #[.string ⟨#[108, 101, 116]⟩, .string ⟨#[114, 101, 99]⟩, .string ⟨#[105, 110]⟩, .string ⟨#[102, 117, 110]⟩, .string ⟨#[105, 102]⟩, .string ⟨#[116, 104, 101, 110]⟩, .string ⟨#[101, 108, 115, 101]⟩, .string ⟨#[109, 97, 116, 99, 104]⟩, .string ⟨#[119, 105, 116, 104]⟩, .string ⟨#[116, 121, 112, 101]⟩, .string ⟨#[111, 102]⟩, .string ⟨#[116, 114, 117, 101]⟩, .string ⟨#[102, 97, 108, 115, 101]⟩] t)).cell? ⟨w.heap.size, k, none⟩ = some (.string ⟨(keyWords.getD k []).toArray⟩) := by
  rw [cell_of_row _ _ _ _ _ _ (heap_alloc_new w _)]
  match k, h with
  | 0, _ => rfl
  | 1, _ => rfl
  | 2, _ => rfl
  | 3, _ => rfl
  | 4, _ => rfl
  | 5, _ => rfl
  | 6, _ => rfl
  | 7, _ => rfl
  | 8, _ => rfl
  | 9, _ => rfl
  | 10, _ => rfl
  | 11, _ => rfl
  | 12, _ => rfl
set_option maxHeartbeats 400000 in
theorem signs_any (w : World) : Calls Try.prog 51 #[] w fun e w' => e = .returned (.agg #[.string ⟨#[45, 62]⟩, .string ⟨#[58, 58]⟩, .string ⟨#[59, 59]⟩, .string ⟨#[40]⟩, .string ⟨#[41]⟩, .string ⟨#[44]⟩, .string ⟨#[124]⟩, .string ⟨#[61]⟩, .string ⟨#[60]⟩, .string ⟨#[43]⟩, .string ⟨#[45]⟩, .string ⟨#[42]⟩, .string ⟨#[95]⟩]) ∧ Below w.heap.size w w' := by
  go_enter Try.func51, Try.ntmps51
  go_wp2
  exact bodyPost_ret (v := .agg #[.string ⟨#[45, 62]⟩, .string ⟨#[58, 58]⟩, .string ⟨#[59, 59]⟩, .string ⟨#[40]⟩, .string ⟨#[41]⟩, .string ⟨#[44]⟩, .string ⟨#[124]⟩, .string ⟨#[61]⟩, .string ⟨#[60]⟩, .string ⟨#[43]⟩, .string ⟨#[45]⟩, .string ⟨#[42]⟩, .string ⟨#[95]⟩]) (by simp [results, Try.results51, go_sem]) rfl ⟨rfl, (Below.refl _ _).alloc (Nat.le_refl _) _⟩
theorem signs_cell (w : World) (t : TypeId) (k : Nat) (h : k < 13) : (w.alloc (.cells #[.string ⟨#[45, 62]⟩, .string ⟨#[58, 58]⟩, .string ⟨#[59, 59]⟩, .string ⟨#[40]⟩, .string ⟨#[41]⟩, .string ⟨#[44]⟩, .string ⟨#[124]⟩, .string ⟨#[61]⟩, .string ⟨#[60]⟩, .string ⟨#[43]⟩, .string ⟨#[45]⟩, .string ⟨#[42]⟩, .string ⟨#[95]⟩] t)).cell? ⟨w.heap.size, k, none⟩ = some (.string ⟨(signWords.getD k []).toArray⟩) := by
  rw [cell_of_row _ _ _ _ _ _ (heap_alloc_new w _)]
  match k, h with
  | 0, _ => rfl
  | 1, _ => rfl
  | 2, _ => rfl
  | 3, _ => rfl
  | 4, _ => rfl
  | 5, _ => rfl
  | 6, _ => rfl
  | 7, _ => rfl
  | 8, _ => rfl
  | 9, _ => rfl
  | 10, _ => rfl
  | 11, _ => rfl
  | 12, _ => rfl
end Go.Proofs.Ytniofjeefphlmaa
