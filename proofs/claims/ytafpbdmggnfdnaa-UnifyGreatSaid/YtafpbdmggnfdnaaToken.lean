/- The contracts of the lexer's run, wordKind, sign, token. -/
import Derived.Test.YtafpbdmggnfdnaaLeaf
import Derived.Lib.Strings
namespace Go.Proofs.Ytafpbdmggnfdnaa
open Go.RowKit
set_option linter.unusedVariables false

set_option maxHeartbeats 400000 in
theorem wordKind_any (u : ByteArray) (w : World) : Calls Try.prog 71 #[.string u] w fun e w' => e = .returned (.int .i64 (wordKindL u.toList)) ∧ w = w' := by
  go_enter Try.func71, Try.ntmps71
  go_wp2
  all_goals
    go_ret
    exact ⟨ret_int (by simp_all [wordKindL, keyWords]), rfl⟩

theorem extract2 (s : ByteArray) (k : Nat) (h : k + 1 < s.size) : ∃ c d : UInt8, (c.toNat : Int) = byt s k ∧ (d.toNat : Int) = byt s (k + 1) ∧ (s.extract k (k + 2)).toList = [c, d] ∧ s.toList.drop k = c :: d :: s.toList.drop (k + 2) := by
  obtain ⟨c, hc, e1⟩ := drop_byt s k (by omega)
  obtain ⟨d, hd, e2⟩ := drop_byt s (k + 1) h
  refine ⟨c, d, hc, hd, ?_, by rw [e1, e2]⟩
  rw [ByteArray.toList_eq] at *
  rw [Lib.extract_data, e1, e2]
  simp
theorem u8_45 (c : UInt8) : (c == 45) = ((c.toNat : Int) == 45) := by rw [Bool.eq_iff_iff]; simp [← UInt8.toNat_inj]; omega
theorem u8_58 (c : UInt8) : (c == 58) = ((c.toNat : Int) == 58) := by rw [Bool.eq_iff_iff]; simp [← UInt8.toNat_inj]; omega
theorem u8_59 (c : UInt8) : (c == 59) = ((c.toNat : Int) == 59) := by rw [Bool.eq_iff_iff]; simp [← UInt8.toNat_inj]; omega
theorem u8_62 (c : UInt8) : (c == 62) = ((c.toNat : Int) == 62) := by rw [Bool.eq_iff_iff]; simp [← UInt8.toNat_inj]; omega

def signV (x y : Int) : Nat := if sign2B x y then 2 else if sign1B x then 1 else 0
set_option maxHeartbeats 400000 in
theorem sign_any (s : ByteArray) (a : Int) (w : World) (h0 : 0 ≤ a) (h1 : a < s.size) (hs : s.size ≤ 1000000) :
    Calls Try.prog 74 #[.string s, .int .i64 a] w fun e w' => e = .returned (.int .i64 (signL (s.toList.drop a.toNat))) ∧ w = w' := by
  obtain ⟨k, rfl⟩ := Int.eq_ofNat_of_zero_le h0
  rw [Int.toNat_natCast]
  have e1 := byt_eq s k (by omega)
  by_cases hk : k + 1 < s.size
  · obtain ⟨c, d, hc, hd, hx, hdr⟩ := extract2 s k hk
    have c1 := u8_45 c; have c2 := u8_58 c; have c3 := u8_59 c
    have d1 := u8_62 d; have d2 := u8_58 d; have d3 := u8_59 d
    have HR := hide (show signL (s.toList.drop k) = signV (byt s k) (byt s (k + 1)) by rw [hdr, ← hc, ← hd]; rfl)
    rw [hc] at c1 c2 c3
    rw [hd] at d1 d2 d3
    clear hdr hc hd
    generalize byt s k = x at *
    generalize byt s (k + 1) = y at *
    generalize signL (s.toList.drop k) = z at *
    go_enter Try.func74, Try.ntmps74
    go_wp2
    all_goals
      go_ret
      refine ⟨ret_int ?_, rfl⟩
      rw [HR.out]
      first | (simp_all [signV, sign2B, sign1B]; done) | (simp_all [signV, sign2B, sign1B]; split <;> omega)
  · obtain ⟨c, hc, hdr⟩ := drop_byt s k (by omega)
    rw [List.drop_of_length_le (i := k + 1) (by rw [size_toList]; omega)] at hdr
    have HR := hide (show signL (s.toList.drop k) = if sign1B (byt s k) then 1 else 0 by rw [hdr, ← hc]; rfl)
    clear hdr hc
    generalize byt s k = x at *
    generalize signL (s.toList.drop k) = z at *
    go_enter Try.func74, Try.ntmps74
    go_wp2
    all_goals
      go_ret
      refine ⟨ret_int ?_, rfl⟩
      rw [HR.out]
      simp_all [sign1B]

theorem runL_at (t : Bool) (s : ByteArray) (k : Nat) (h : k < s.size) : runL t (s.toList.drop k) = if nameB t (byt s k) then 1 + runL t (s.toList.drop (k + 1)) else 0 := by
  obtain ⟨c, hc, e⟩ := drop_byt s k h
  rw [e, runL_cons, nm, hc]
theorem runL_end (t : Bool) (s : ByteArray) (k : Nat) (h : s.size ≤ k) : runL t (s.toList.drop k) = 0 := by
  rw [List.drop_of_length_le (by rw [size_toList]; exact h)]; rfl
theorem digL_at (s : ByteArray) (k : Nat) (h : k < s.size) : digL (s.toList.drop k) = if digitB (byt s k) then 1 + digL (s.toList.drop (k + 1)) else 0 := by
  obtain ⟨c, hc, e⟩ := drop_byt s k h
  rw [e, digL_cons, dg, hc]
theorem digL_end (s : ByteArray) (k : Nat) (h : s.size ≤ k) : digL (s.toList.drop k) = 0 := by
  rw [List.drop_of_length_le (by rw [size_toList]; exact h)]; rfl

set_option maxHeartbeats 1000000 in
theorem run_any (s : ByteArray) (a : Int) (t : Bool) (w : World) (h0 : 0 ≤ a) (h1 : a ≤ s.size) (hs : s.size ≤ 1000000) :
    Calls Try.prog 70 #[.string s, .int .i64 a, .bool t] w fun e w' => e = .returned (.int .i64 (runL t (s.toList.drop a.toNat))) ∧ w = w' := by
  obtain ⟨k, rfl⟩ := Int.eq_ofNat_of_zero_le h0
  rw [Int.toNat_natCast]
  cases t
  · go_enter Try.func70, Try.ntmps70
    go_wp2
    go_loop [7] (fun x => ∃ j : Nat, k ≤ j ∧ j ≤ s.size ∧ x = .int .i64 j ∧ Hid (k + runL false (s.toList.drop k) = j + runL false (s.toList.drop j))) (fun x => s.size - (intOf x).toNat)
    case atStart => exact ⟨k, Nat.le_refl _, by omega, rfl, rfl⟩
    case round =>
     obtain ⟨j, hkj, hj, rfl, HI⟩ := hrel
     by_cases hlt : j < s.size
     · have e1 := byt_eq s j hlt
       have HS := hide (runL_at false s j hlt)
       generalize byt s j = x at *
       go_wp2_with (first | (go_at_call 69; refine (small_any _ _).mono ?_; rintro e w' ⟨rfl, rfl⟩) | (go_at_call 72; refine (great_any _ _).mono ?_; rintro e w' ⟨rfl, rfl⟩) | (go_at_call 73; refine (digit_any _ _).mono ?_; rintro e w' ⟨rfl, rfl⟩))
       all_goals first
         | (go_round
            case rel => exact ⟨j + 1, by omega, by omega, by go_num, hide (by rw [HI.out, HS.out, if_pos (by simp_all [nameB])]; omega)⟩
            case measure => simp [intOf]; omega)
         | (go_ret
            have h := HI.out
            rw [HS.out, if_neg (by simp_all [nameB])] at h
            exact ⟨ret_int (by omega), rfl⟩)
     · go_wp2
       go_ret
       have h := HI.out
       rw [runL_end false s j (by omega)] at h
       exact ⟨ret_int (by omega), rfl⟩
  · go_enter Try.func70, Try.ntmps70
    go_wp2
    go_loop [7] (fun x => ∃ j : Nat, k ≤ j ∧ j ≤ s.size ∧ x = .int .i64 j ∧ Hid (k + runL true (s.toList.drop k) = j + runL true (s.toList.drop j))) (fun x => s.size - (intOf x).toNat)
    case atStart => exact ⟨k, Nat.le_refl _, by omega, rfl, rfl⟩
    case round =>
     obtain ⟨j, hkj, hj, rfl, HI⟩ := hrel
     by_cases hlt : j < s.size
     · have e1 := byt_eq s j hlt
       have HS := hide (runL_at true s j hlt)
       generalize byt s j = x at *
       go_wp2_with (first | (go_at_call 69; refine (small_any _ _).mono ?_; rintro e w' ⟨rfl, rfl⟩) | (go_at_call 72; refine (great_any _ _).mono ?_; rintro e w' ⟨rfl, rfl⟩) | (go_at_call 73; refine (digit_any _ _).mono ?_; rintro e w' ⟨rfl, rfl⟩))
       all_goals first
         | (go_round
            case rel => exact ⟨j + 1, by omega, by omega, by go_num, hide (by rw [HI.out, HS.out, if_pos (by simp_all [nameB])]; omega)⟩
            case measure => simp [intOf]; omega)
         | (go_ret
            have h := HI.out
            rw [HS.out, if_neg (by simp_all [nameB])] at h
            exact ⟨ret_int (by omega), rfl⟩)
     · go_wp2
       go_ret
       have h := HI.out
       rw [runL_end true s j (by omega)] at h
       exact ⟨ret_int (by omega), rfl⟩
end Go.Proofs.Ytafpbdmggnfdnaa
