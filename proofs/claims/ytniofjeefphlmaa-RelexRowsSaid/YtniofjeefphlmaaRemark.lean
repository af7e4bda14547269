/- The contracts of the lexer's remark and nothing. -/
import Derived.Test.YtniofjeefphlmaaToken2
namespace Go.Proofs.Ytniofjeefphlmaa
open Go.RowKit
set_option linter.unusedVariables false

theorem remL_at (s : ByteArray) (j : Nat) (d : Int) (n : Nat) (h : j < s.size) : remL (s.toList.drop j) d n =
    if opensL (s.toList.drop j) then remL (s.toList.drop (j + 2)) (d + 1) (n + 2)
    else if closesL (s.toList.drop j) then (if d - 1 = 0 then (n + 2, true) else remL (s.toList.drop (j + 2)) (d - 1) (n + 2))
    else remL (s.toList.drop (j + 1)) d (n + 1) := by
  obtain ⟨c, hc, e⟩ := drop_byt s j h
  by_cases h' : j + 1 < s.size
  · obtain ⟨d', hd, e2⟩ := drop_byt s (j + 1) h'
    rw [e, e2, remL]
  · have e2 : s.toList.drop (j + 1) = [] := List.drop_of_length_le (by rw [size_toList]; omega)
    rw [e, e2]; simp [opensL, closesL, remL]
theorem remL_end (s : ByteArray) (j : Nat) (d : Int) (n : Nat) (h : s.size ≤ j) : remL (s.toList.drop j) d n = (n, false) := by
  rw [List.drop_of_length_le (by rw [size_toList]; exact h)]; simp [remL]
theorem opens_lt (s : ByteArray) (j : Nat) (h : opensL (s.toList.drop j) = true) : j + 1 < s.size := by
  rw [opensL_byt] at h; simp at h; exact h.1.1
theorem closes_lt (s : ByteArray) (j : Nat) (h : closesL (s.toList.drop j) = true) : j + 1 < s.size := by
  rw [closesL_byt] at h; simp at h; exact h.1.1

def RemOut (s : ByteArray) (k : Nat) (w : World) (e : Ending) (w' : World) : Prop :=
  e = .returned (.tuple #[.int .i64 ((k + (remL (s.toList.drop k) 0 0).1 : Nat) : Int), .bool (remL (s.toList.drop k) 0 0).2]) ∧ w = w'
theorem ret_ib {a c : Int} {b d : Bool} (h : a = c) (h' : b = d) : Ending.returned (.tuple #[.int .i64 a, .bool b]) = .returned (.tuple #[.int .i64 c, .bool d]) := by rw [h, h']

set_option maxHeartbeats 1000000 in
theorem remark_at (s : ByteArray) (k : Nat) (w : World) (hk : k ≤ s.size) (hs : s.size ≤ 1000000) :
    Calls Try.prog 33 #[.string s, .int .i64 k] w (RemOut s k w) := by
  go_enter Try.func33, Try.ntmps33
  go_wp2
  go_loop [1, 6] (fun v u => ∃ (n : Nat) (d : Int), k + n ≤ s.size ∧ v = .int .i64 ((k : Int) + n) ∧ u = .int .i64 d ∧ -(n : Int) ≤ d ∧ d ≤ n ∧ Hid (remL (s.toList.drop k) 0 0 = remL (s.toList.drop (k + n)) d n)) (fun v _ => s.size - (intOf v).toNat)
  case atStart => exact ⟨0, 0, by omega, by simp, rfl, by omega, by omega, rfl⟩
  case round =>
    obtain ⟨n, d, hn, rfl, rfl, hd1, hd2, HI⟩ := hrel
    by_cases hlt : k + n < s.size
    · have HS := hide (remL_at s (k + n) d n hlt)
      have ho := opens_lt s (k + n)
      have hc := closes_lt s (k + n)
      have h63 : (k : Int) + n < s.size := by omega
      cases h1 : opensL (s.toList.drop (k + n))
      · cases h2 : closesL (s.toList.drop (k + n))
        · clear ho hc
          have H1 := hide h1; have H2 := hide h2; clear h1 h2
          go_wp2_with (first
            | (go_at_call 32; refine (opens_any _ _ _ (by omega) (by omega) hs).mono ?_; rintro e w' ⟨rfl, rfl⟩; rw [show ((k : Int) + n).toNat = k + n from by omega, H1.out])
            | (go_at_call 40; refine (closes_any _ _ _ (by omega) (by omega) hs).mono ?_; rintro e w' ⟨rfl, rfl⟩; rw [show ((k : Int) + n).toNat = k + n from by omega, H2.out]))
          go_round
          case rel => exact ⟨n + 1, d, by omega, by go_num, rfl, by omega, by omega, hide (by rw [HI.out, HS.out, H1.out, H2.out]; rfl)⟩
          case measure => simp [intOf]; omega
        · have hc' := hc h2
          clear ho hc
          have H1 := hide h1; have H2 := hide h2; clear h1 h2
          by_cases hd : d = 1
          · subst hd
            go_wp2_with (first
              | (go_at_call 32; refine (opens_any _ _ _ (by omega) (by omega) hs).mono ?_; rintro e w' ⟨rfl, rfl⟩; rw [show ((k : Int) + n).toNat = k + n from by omega, H1.out])
              | (go_at_call 40; refine (closes_any _ _ _ (by omega) (by omega) hs).mono ?_; rintro e w' ⟨rfl, rfl⟩; rw [show ((k : Int) + n).toNat = k + n from by omega, H2.out]))
            go_ret2
            have h : remL (s.toList.drop k) 0 0 = (n + 2, true) := by rw [HI.out, HS.out, H1.out, H2.out]; rfl
            unfold RemOut
            rw [h]
            exact ⟨ret_ib (by simp only; omega) rfl, rfl⟩
          · have hd' : (d - 1 == 0) = false := by simp; omega
            go_wp2_with (first
              | (go_at_call 32; refine (opens_any _ _ _ (by omega) (by omega) hs).mono ?_; rintro e w' ⟨rfl, rfl⟩; rw [show ((k : Int) + n).toNat = k + n from by omega, H1.out])
              | (go_at_call 40; refine (closes_any _ _ _ (by omega) (by omega) hs).mono ?_; rintro e w' ⟨rfl, rfl⟩; rw [show ((k : Int) + n).toNat = k + n from by omega, H2.out]))
            go_round
            case rel => exact ⟨n + 2, d - 1, by omega, by go_num, rfl, by omega, by omega, hide (by rw [HI.out, HS.out, H1.out, H2.out]; simp [show ¬ d - 1 = 0 by omega, Nat.add_assoc])⟩
            case measure => simp [intOf]; omega
      · have ho' := ho h1
        clear ho hc
        have H1 := hide h1; clear h1
        go_wp2_with (go_at_call 32; refine (opens_any _ _ _ (by omega) (by omega) hs).mono ?_; rintro e w' ⟨rfl, rfl⟩; rw [show ((k : Int) + n).toNat = k + n from by omega, H1.out])
        go_round
        case rel => exact ⟨n + 2, d + 1, by omega, by go_num, rfl, by omega, by omega, hide (by rw [HI.out, HS.out, H1.out]; simp [Nat.add_assoc])⟩
        case measure => simp [intOf]; omega
    · have h63 : ¬ (k : Int) + n < s.size := by omega
      go_wp2
      go_ret2
      have h := HI.out
      rw [remL_end s (k + n) _ _ (by omega)] at h
      unfold RemOut
      rw [h]
      exact ⟨ret_ib (by simp only; omega) rfl, rfl⟩

theorem remark_any (s : ByteArray) (a : Int) (w : World) (h0 : 0 ≤ a) (h1 : a ≤ s.size) (hs : s.size ≤ 1000000) :
    Calls Try.prog 33 #[.string s, .int .i64 a] w fun e w' => e = .returned (.tuple #[.int .i64 ((a.toNat + (remL (s.toList.drop a.toNat) 0 0).1 : Nat) : Int), .bool (remL (s.toList.drop a.toNat) 0 0).2]) ∧ w = w' := by
  obtain ⟨k, rfl⟩ := Int.eq_ofNat_of_zero_le h0
  rw [Int.toNat_natCast]
  exact remark_at s k w (by omega) hs

theorem noL_at (s : ByteArray) (k : Nat) (h : k < s.size) : noL (s.toList.drop k) = if whiteB (byt s k) || opensL (s.toList.drop k) || decide (0 < (tokenL (s.toList.drop k)).2) then 0 else 1 + noL (s.toList.drop (k + 1)) := by
  obtain ⟨c, hc, e⟩ := drop_byt s k h
  rw [e, noL, hc]
theorem noL_end (s : ByteArray) (k : Nat) (h : s.size ≤ k) : noL (s.toList.drop k) = 0 := by
  rw [List.drop_of_length_le (by rw [size_toList]; exact h)]; rfl

set_option maxHeartbeats 1000000 in
theorem nothing_any (s : ByteArray) (a : Int) (w : World) (h0 : 0 ≤ a) (h1 : a < s.size) (hs : s.size ≤ 1000000) :
    Calls Try.prog 35 #[.string s, .int .i64 a] w fun e w' => e = .returned (.int .i64 ((1 + noL (s.toList.drop (a.toNat + 1)) : Nat) : Int)) ∧ w = w' := by
  obtain ⟨k, rfl⟩ := Int.eq_ofNat_of_zero_le h0
  rw [Int.toNat_natCast]
  go_enter Try.func35, Try.ntmps35
  go_wp2
  go_loop [5] (fun x => ∃ j : Nat, k + 1 ≤ j ∧ j ≤ s.size ∧ x = .int .i64 j ∧ Hid (k + 1 + noL (s.toList.drop (k + 1)) = j + noL (s.toList.drop j))) (fun x => s.size - (intOf x).toNat)
  case atStart => exact ⟨k + 1, Nat.le_refl _, by omega, rfl, rfl⟩
  case round =>
    obtain ⟨j, hkj, hj, rfl, HI⟩ := hrel
    by_cases hlt : j < s.size
    · have e1 := byt_eq s j hlt
      have HS := hide (noL_at s j hlt)
      generalize byt s j = x at *
      generalize hT : tokenL (s.toList.drop j) = T at *
      have HT := hide hT; clear hT
      generalize hO : opensL (s.toList.drop j) = O at *
      have HO := hide hO; clear hO
      obtain ⟨t1, t2⟩ := T
      cases hw : whiteB x
      · cases O
        · rcases Nat.eq_zero_or_pos t2 with ht | ht
          · subst ht
            go_wp2_with (first
              | (go_at_call 31; refine (white_any _ _).mono ?_; rintro e w' ⟨rfl, rfl⟩)
              | (go_at_call 32; refine (opens_any _ _ _ (by omega) (by omega) hs).mono ?_; rintro e w' ⟨rfl, rfl⟩; rw [Int.toNat_natCast, HO.out])
              | (go_at_call 34; refine (token_any _ _ _ (by omega) (by omega) hs).mono ?_; rintro e w' ⟨rfl, rfl⟩; rw [Int.toNat_natCast, HT.out]))
            go_round
            case rel => exact ⟨j + 1, by omega, by omega, by go_num, hide (by rw [HI.out, HS.out, if_neg (by simp [hw])]; omega)⟩
            case measure => simp [intOf]; omega
          · go_wp2_with (first
              | (go_at_call 31; refine (white_any _ _).mono ?_; rintro e w' ⟨rfl, rfl⟩)
              | (go_at_call 32; refine (opens_any _ _ _ (by omega) (by omega) hs).mono ?_; rintro e w' ⟨rfl, rfl⟩; rw [Int.toNat_natCast, HO.out])
              | (go_at_call 34; refine (token_any _ _ _ (by omega) (by omega) hs).mono ?_; rintro e w' ⟨rfl, rfl⟩; rw [Int.toNat_natCast, HT.out]))
            go_ret
            have h := HI.out
            rw [HS.out, if_pos (by simp [ht])] at h
            exact ⟨ret_int (by omega), rfl⟩
        · go_wp2_with (first
              | (go_at_call 31; refine (white_any _ _).mono ?_; rintro e w' ⟨rfl, rfl⟩)
              | (go_at_call 32; refine (opens_any _ _ _ (by omega) (by omega) hs).mono ?_; rintro e w' ⟨rfl, rfl⟩; rw [Int.toNat_natCast, HO.out]))
          go_ret
          have h := HI.out
          rw [HS.out, if_pos (by simp)] at h
          exact ⟨ret_int (by omega), rfl⟩
      · go_wp2_with (go_at_call 31; refine (white_any _ _).mono ?_; rintro e w' ⟨rfl, rfl⟩)
        go_ret
        have h := HI.out
        rw [HS.out, if_pos (by simp [hw])] at h
        exact ⟨ret_int (by omega), rfl⟩
    · go_wp2
      go_ret
      have h := HI.out
      rw [noL_end s j (by omega)] at h
      exact ⟨ret_int (by omega), rfl⟩
end Go.Proofs.Ytniofjeefphlmaa
