/- The contract of the lexer's token. -/
import Derived.Test.YtafpbdmggnfdnaaToken
namespace Go.Proofs.Ytafpbdmggnfdnaa
open Go.RowKit
set_option linter.unusedVariables false

theorem ret_pair {a b c d : Int} (h : a = c) (h' : b = d) : Ending.returned (.tuple #[.int .i64 a, .int .i64 b]) = .returned (.tuple #[.int .i64 c, .int .i64 d]) := by rw [h, h']
theorem extract_take (s : ByteArray) (k z : Nat) : (s.extract k (k + z)).toList = (s.toList.drop k).take z := by
  rw [ByteArray.toList_eq, ByteArray.toList_eq, Lib.extract_data, Nat.add_sub_cancel_left]

theorem tokenL_word (s : ByteArray) (k : Nat) (h : k < s.size) (h1 : (smallB (byt s k) || byt s k == 95) = true) :
    tokenL (s.toList.drop k) = (wordKindL ((s.toList.drop k).take (runL true (s.toList.drop k))), runL true (s.toList.drop k)) := by
  obtain ⟨c, hc, e⟩ := drop_byt s k h
  rw [e]; rw [← hc] at h1; simp only [tokenL]; rw [if_pos h1]
theorem tokenL_great (s : ByteArray) (k : Nat) (h : k < s.size) (h1 : (smallB (byt s k) || byt s k == 95) = false) (h2 : greatB (byt s k) = true) :
    tokenL (s.toList.drop k) = (2, runL true (s.toList.drop k)) := by
  obtain ⟨c, hc, e⟩ := drop_byt s k h
  rw [e]; rw [← hc] at h1 h2; simp only [tokenL]; rw [if_neg (by simp [h1]), if_pos h2]
theorem tokenL_digit (s : ByteArray) (k : Nat) (h : k < s.size) (h1 : (smallB (byt s k) || byt s k == 95) = false) (h2 : greatB (byt s k) = false) (h3 : digitB (byt s k) = true) :
    tokenL (s.toList.drop k) = (3, 1 + digL (s.toList.drop (k + 1))) := by
  obtain ⟨c, hc, e⟩ := drop_byt s k h
  rw [e]; rw [← hc] at h1 h2 h3; simp only [tokenL]; rw [if_neg (by simp [h1]), if_neg (by simp [h2]), if_pos h3]
theorem tokenL_tick (s : ByteArray) (k : Nat) (h : k < s.size) (h4 : byt s k = 39) :
    tokenL (s.toList.drop k) = if decide (k + 1 < s.size) && smallB (byt s (k + 1)) then (4, 1 + runL false (s.toList.drop (k + 1))) else (0, 0) := by
  obtain ⟨c, hc, e⟩ := drop_byt s k h
  rw [e]; rw [← hc] at h4; simp only [tokenL, h4]
  rw [if_neg (by simp [smallB]), if_neg (by simp [greatB]), if_neg (by simp [digitB]), if_pos (by simp)]
  by_cases h' : k + 1 < s.size
  · obtain ⟨d, hd, e2⟩ := drop_byt s (k + 1) h'
    rw [e2, ← hd]; simp [h']
  · rw [List.drop_of_length_le (i := k + 1) (by rw [size_toList]; omega)]; simp [h']
theorem tokenL_sign (s : ByteArray) (k : Nat) (h : k < s.size) (h1 : (smallB (byt s k) || byt s k == 95) = false) (h2 : greatB (byt s k) = false) (h3 : digitB (byt s k) = false) (h4 : (byt s k == 39) = false) :
    tokenL (s.toList.drop k) = if 0 < signL (s.toList.drop k) then (6, signL (s.toList.drop k)) else (0, 0) := by
  obtain ⟨c, hc, e⟩ := drop_byt s k h
  rw [e]; rw [← hc] at h1 h2 h3 h4; simp only [tokenL]; rw [if_neg (by simp [h1]), if_neg (by simp [h2]), if_neg (by simp [h3]), if_neg (by simp [h4])]

def TokOut (s : ByteArray) (k : Nat) (w : World) (e : Ending) (w' : World) : Prop :=
  e = .returned (.tuple #[.int .i64 (tokenL (s.toList.drop k)).1, .int .i64 (tokenL (s.toList.drop k)).2]) ∧ w = w'

set_option maxHeartbeats 1000000 in
theorem token_word (s : ByteArray) (k : Nat) (w : World) (hk : k < s.size) (hs : s.size ≤ 1000000) (h1 : (smallB (byt s k) || byt s k == 95) = true) :
    Calls Try.prog 65 #[.string s, .int .i64 k] w (TokOut s k w) := by
  have HT := hide (tokenL_word s k hk h1)
  have e1 := byt_eq s k hk
  have hr := runL_le true (s.toList.drop k)
  rw [List.length_drop, size_toList] at hr
  have HX := hide (extract_take s k (runL true (s.toList.drop k)))
  generalize hz : runL true (s.toList.drop k) = z at *
  have HZ := hide hz; clear hz
  generalize byt s k = x at *
  rcases (show smallB x = true ∨ (smallB x = false ∧ (x == 95) = true) by revert h1; cases smallB x <;> simp) with hsm | ⟨hsm, h95⟩
  all_goals
    clear h1
    go_enter Try.func65, Try.ntmps65
    go_wp2_with (first
      | (go_at_call 69; refine (small_any _ _).mono ?_; rintro e w' ⟨rfl, rfl⟩)
      | (go_at_call 70; refine (run_any _ _ _ _ (by omega) (by omega) hs).mono ?_; rintro e w' ⟨rfl, rfl⟩; rw [Int.toNat_natCast, HZ.out])
      | (go_at_call 71; refine (wordKind_any _ _).mono ?_; rintro e w' ⟨rfl, rfl⟩))
    go_ret2
    unfold TokOut
    rw [HT.out]
    exact ⟨ret_pair (by rw [← HX.out]) rfl, rfl⟩

set_option maxHeartbeats 1000000 in
theorem token_great (s : ByteArray) (k : Nat) (w : World) (hk : k < s.size) (hs : s.size ≤ 1000000) (h1 : (smallB (byt s k) || byt s k == 95) = false) (h2 : greatB (byt s k) = true) :
    Calls Try.prog 65 #[.string s, .int .i64 k] w (TokOut s k w) := by
  have HT := hide (tokenL_great s k hk h1 h2)
  have e1 := byt_eq s k hk
  generalize byt s k = x at *
  obtain ⟨hsm, h95⟩ : smallB x = false ∧ (x == 95) = false := by simpa using h1
  clear h1
  go_enter Try.func65, Try.ntmps65
  go_wp2_with (first
    | (go_at_call 69; refine (small_any _ _).mono ?_; rintro e w' ⟨rfl, rfl⟩)
    | (go_at_call 72; refine (great_any _ _).mono ?_; rintro e w' ⟨rfl, rfl⟩)
    | (go_at_call 70; refine (run_any _ _ _ _ (by omega) (by omega) hs).mono ?_; rintro e w' ⟨rfl, rfl⟩; rw [Int.toNat_natCast]))
  go_ret2
  unfold TokOut
  rw [HT.out]
  exact ⟨rfl, rfl⟩

set_option maxHeartbeats 1000000 in
theorem token_digit (s : ByteArray) (k : Nat) (w : World) (hk : k < s.size) (hs : s.size ≤ 1000000) (h1 : (smallB (byt s k) || byt s k == 95) = false) (h2 : greatB (byt s k) = false) (h3 : digitB (byt s k) = true) :
    Calls Try.prog 65 #[.string s, .int .i64 k] w (TokOut s k w) := by
  have HT := hide (tokenL_digit s k hk h1 h2 h3)
  have e1 := byt_eq s k hk
  generalize byt s k = x at *
  obtain ⟨hsm, h95⟩ : smallB x = false ∧ (x == 95) = false := by simpa using h1
  clear h1
  go_enter Try.func65, Try.ntmps65
  go_wp2_with (first
    | (go_at_call 69; refine (small_any _ _).mono ?_; rintro e w' ⟨rfl, rfl⟩)
    | (go_at_call 72; refine (great_any _ _).mono ?_; rintro e w' ⟨rfl, rfl⟩)
    | (go_at_call 73; refine (digit_any _ _).mono ?_; rintro e w' ⟨rfl, rfl⟩))
  go_loop [8] (fun v => ∃ j : Nat, k + 1 ≤ j ∧ j ≤ s.size ∧ v = .int .i64 j ∧ Hid (k + 1 + digL (s.toList.drop (k + 1)) = j + digL (s.toList.drop j))) (fun v => s.size - (intOf v).toNat)
  case atStart => exact ⟨k + 1, Nat.le_refl _, by omega, rfl, rfl⟩
  case round =>
    obtain ⟨j, hkj, hj, rfl, HI⟩ := hrel
    by_cases hlt : j < s.size
    · have e2 := byt_eq s j hlt
      have HS := hide (digL_at s j hlt)
      generalize byt s j = y at *
      by_cases hy : digitB y = true
      · go_wp2_with (go_at_call 73; refine (digit_any _ _).mono ?_; rintro e w' ⟨rfl, rfl⟩)
        go_round
        case rel => exact ⟨j + 1, by omega, by omega, by go_num, hide (by rw [HI.out, HS.out, if_pos hy]; omega)⟩
        case measure => simp [intOf]; omega
      · have hy' : digitB y = false := by simpa using hy
        clear hy
        go_wp2_with (go_at_call 73; refine (digit_any _ _).mono ?_; rintro e w' ⟨rfl, rfl⟩)
        go_ret2
        have h := HI.out
        rw [HS.out, if_neg (by simp [hy'])] at h
        unfold TokOut
        rw [HT.out]
        exact ⟨ret_pair rfl (by simp only; omega), rfl⟩
    · go_wp2
      go_ret2
      have h := HI.out
      rw [digL_end s j (by omega)] at h
      unfold TokOut
      rw [HT.out]
      exact ⟨ret_pair rfl (by simp only; omega), rfl⟩

set_option maxHeartbeats 1000000 in
theorem token_tick (s : ByteArray) (k : Nat) (w : World) (hk : k < s.size) (hs : s.size ≤ 1000000) (h4 : byt s k = 39) :
    Calls Try.prog 65 #[.string s, .int .i64 k] w (TokOut s k w) := by
  have HT := hide (tokenL_tick s k hk h4)
  have e1 := byt_eq s k hk
  rw [h4] at e1
  clear h4
  have g1 : smallB 39 = false := rfl
  have g2 : greatB 39 = false := rfl
  have g3 : digitB 39 = false := rfl
  by_cases hlt : k + 1 < s.size
  · have e2 := byt_eq s (k + 1) hlt
    generalize byt s (k + 1) = y at *
    cases hy : smallB y
    all_goals
      go_enter Try.func65, Try.ntmps65
      go_wp2_with (first
        | (go_at_call 69; refine (small_any _ _).mono ?_; rintro e w' ⟨rfl, rfl⟩)
        | (go_at_call 72; refine (great_any _ _).mono ?_; rintro e w' ⟨rfl, rfl⟩)
        | (go_at_call 73; refine (digit_any _ _).mono ?_; rintro e w' ⟨rfl, rfl⟩)
        | (go_at_call 70; refine (run_any _ _ _ _ (by omega) (by omega) hs).mono ?_; rintro e w' ⟨rfl, rfl⟩; have hr := runL_le false (s.toList.drop ((k : Int) + 1).toNat); rw [List.length_drop, size_toList] at hr; rw [show ((k : Int) + 1).toNat = k + 1 from by omega] at *))
      go_ret2
      unfold TokOut
      rw [HT.out]
      exact ⟨ret_pair (by simp [hy, hlt]) (by simp [hy, hlt]), rfl⟩
  · go_enter Try.func65, Try.ntmps65
    go_wp2_with (first
        | (go_at_call 69; refine (small_any _ _).mono ?_; rintro e w' ⟨rfl, rfl⟩)
        | (go_at_call 72; refine (great_any _ _).mono ?_; rintro e w' ⟨rfl, rfl⟩)
        | (go_at_call 73; refine (digit_any _ _).mono ?_; rintro e w' ⟨rfl, rfl⟩))
    go_ret2
    unfold TokOut
    rw [HT.out]
    exact ⟨ret_pair (by simp [hlt]) (by simp [hlt]), rfl⟩

set_option maxHeartbeats 1000000 in
theorem token_sign (s : ByteArray) (k : Nat) (w : World) (hk : k < s.size) (hs : s.size ≤ 1000000) (h1 : (smallB (byt s k) || byt s k == 95) = false) (h2 : greatB (byt s k) = false) (h3 : digitB (byt s k) = false) (h4 : (byt s k == 39) = false) :
    Calls Try.prog 65 #[.string s, .int .i64 k] w (TokOut s k w) := by
  have HT := hide (tokenL_sign s k hk h1 h2 h3 h4)
  have e1 := byt_eq s k hk
  generalize byt s k = x at *
  obtain ⟨hsm, h95⟩ : smallB x = false ∧ (x == 95) = false := by simpa using h1
  clear h1
  generalize hz : signL (s.toList.drop k) = z at *
  have HZ := hide hz; clear hz
  rcases Nat.eq_zero_or_pos z with hz | hz
  · subst hz
    go_enter Try.func65, Try.ntmps65
    go_wp2_with (first
      | (go_at_call 69; refine (small_any _ _).mono ?_; rintro e w' ⟨rfl, rfl⟩)
      | (go_at_call 72; refine (great_any _ _).mono ?_; rintro e w' ⟨rfl, rfl⟩)
      | (go_at_call 73; refine (digit_any _ _).mono ?_; rintro e w' ⟨rfl, rfl⟩)
      | (go_at_call 74; refine (sign_any _ _ _ (by omega) (by omega) hs).mono ?_; rintro e w' ⟨rfl, rfl⟩; rw [Int.toNat_natCast, HZ.out]))
    go_ret2
    unfold TokOut
    rw [HT.out]
    exact ⟨rfl, rfl⟩
  · go_enter Try.func65, Try.ntmps65
    go_wp2_with (first
      | (go_at_call 69; refine (small_any _ _).mono ?_; rintro e w' ⟨rfl, rfl⟩)
      | (go_at_call 72; refine (great_any _ _).mono ?_; rintro e w' ⟨rfl, rfl⟩)
      | (go_at_call 73; refine (digit_any _ _).mono ?_; rintro e w' ⟨rfl, rfl⟩)
      | (go_at_call 74; refine (sign_any _ _ _ (by omega) (by omega) hs).mono ?_; rintro e w' ⟨rfl, rfl⟩; rw [Int.toNat_natCast, HZ.out]))
    go_ret2
    unfold TokOut
    rw [HT.out, if_pos hz]
    exact ⟨rfl, rfl⟩

theorem token_any (s : ByteArray) (a : Int) (w : World) (h0 : 0 ≤ a) (h1 : a < s.size) (hs : s.size ≤ 1000000) :
    Calls Try.prog 65 #[.string s, .int .i64 a] w fun e w' => e = .returned (.tuple #[.int .i64 (tokenL (s.toList.drop a.toNat)).1, .int .i64 (tokenL (s.toList.drop a.toNat)).2]) ∧ w = w' := by
  obtain ⟨k, rfl⟩ := Int.eq_ofNat_of_zero_le h0
  rw [Int.toNat_natCast]
  have hk : k < s.size := by omega
  cases g1 : (smallB (byt s k) || byt s k == 95)
  · cases g2 : greatB (byt s k)
    · cases g3 : digitB (byt s k)
      · cases g4 : (byt s k == 39)
        · exact token_sign s k w hk hs g1 g2 g3 g4
        · exact token_tick s k w hk hs (by simpa using g4)
      · exact token_digit s k w hk hs g1 g2 g3
    · exact token_great s k w hk hs g1 g2
  · exact token_word s k w hk hs g1
end Go.Proofs.Ytafpbdmggnfdnaa
