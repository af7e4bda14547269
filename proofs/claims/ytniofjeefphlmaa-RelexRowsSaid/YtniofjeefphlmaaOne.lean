/- The contract of the reference lexer's one. -/
import Derived.Test.YtniofjeefphlmaaRef
namespace Go.Proofs.Ytniofjeefphlmaa
open Go.RowKit
set_option linter.unusedVariables false

def oneE (k : Nat) (t : Int × Nat) : Nat := if t.2 = 0 then 0 else k + t.2
def OneOut (s : ByteArray) (k : Nat) (w : World) (e : Ending) (w' : World) : Prop :=
  e = .returned (.tuple #[.int .i64 (tokenL (s.toList.drop k)).1, .int .i64 (oneE k (tokenL (s.toList.drop k)) : Nat)]) ∧ Below w.heap.size w w'
theorem one_close {s : ByteArray} {k j : Nat} {K : Int} {w w' : World} (z : Nat) (hT : tokenL (s.toList.drop k) = (K, z)) (hz : 0 < z) (hj : k + z = j) (hb : Below w.heap.size w w') :
    OneOut s k w (.returned (.tuple #[.int .i64 K, .int .i64 j])) w' := by
  unfold OneOut
  rw [hT]
  refine ⟨?_, hb⟩
  rw [← hj]
  simp [oneE, show ¬ z = 0 by omega]
theorem one_none {s : ByteArray} {k : Nat} {w w' : World} (hT : tokenL (s.toList.drop k) = (0, 0)) (hb : Below w.heap.size w w') :
    OneOut s k w (.returned (.tuple #[.int .i64 0, .int .i64 0])) w' := by
  unfold OneOut
  rw [hT]
  exact ⟨rfl, hb⟩
theorem extract_to (s : ByteArray) (k j : Nat) (h : k ≤ j) : (s.extract k j).toList = (s.toList.drop k).take (j - k) := by
  have := extract_take s k (j - k)
  rwa [show k + (j - k) = j by omega] at this

theorem kw_mem (m : Nat) (h : m < 13) : keyWords.getD m [] ∈ keyWords := by
  rw [List.getD_eq_getElem?_getD, List.getElem?_eq_getElem (show m < keyWords.length from h)]; exact List.getElem_mem _
theorem kind_key (u : Bs) (h : (u == [95]) = false) (hm : u ∈ keyWords) : wordKindL u = 5 := by
  unfold wordKindL; rw [if_neg (by simpa using h), if_pos hm]
theorem kind_name (u : Bs) (h : (u == [95]) = false) (hm : ∀ i, i < 13 → ¬ keyWords.getD i [] = u) : wordKindL u = 1 := by
  unfold wordKindL; rw [if_neg (by simpa using h), if_neg]
  intro hu
  obtain ⟨i, hi, e⟩ := List.getElem_of_mem hu
  exact hm i hi (by rw [List.getD_eq_getElem?_getD, List.getElem?_eq_getElem hi]; exact e)

set_option maxRecDepth 100000 in
set_option maxHeartbeats 4000000 in
theorem one_word (s : ByteArray) (k : Nat) (w : World) (hk : k < s.size) (hs : s.size ≤ 1000000) (h1 : (smallB (byt s k) || byt s k == 95) = true) :
    Calls Try.prog 39 #[.string s, .int .i64 k] w (OneOut s k w) := by
  have e1 := byt_eq s k hk
  have HT := hide (tokenL_word s k hk h1)
  have HR := hide (runL_at true s k hk)
  generalize byt s k = x at *
  have hn : nameB true x = true := by
    unfold nameB; revert h1; cases smallB x <;> simp
    intro h; simp [h]
  rw [if_pos hn] at HR
  have g2 : greatB x = false := by
    revert h1; unfold smallB greatB; simp; omega
  rcases (show smallB x = true ∨ (smallB x = false ∧ (x == 95) = true) by revert h1; cases smallB x <;> simp) with g1 | ⟨g1, g3⟩
  all_goals
    clear h1
    go_enter Try.func39, Try.ntmps39
    go_wp2_with (first | (go_at_call 47; refine (rsmall_any _ _).mono ?_; rintro e w' ⟨rfl, rfl⟩) | (go_at_call 48; refine (rgreat_any _ _).mono ?_; rintro e w' ⟨rfl, rfl⟩))
    go_loop [7] (fun v => ∃ j : Nat, k + 1 ≤ j ∧ j ≤ s.size ∧ v = .int .i64 j ∧ Hid (k + runL true (s.toList.drop k) = j + runL true (s.toList.drop j))) (fun v => s.size - (intOf v).toNat)
    case atStart => exact ⟨k + 1, Nat.le_refl _, by omega, by go_num, hide (by rw [HR.out]; omega)⟩
    case round =>
      obtain ⟨j, hkj, hj, rfl, HI⟩ := hrel
      by_cases hex : j < s.size ∧ nameB true (byt s j) = true
      · obtain ⟨hlt, hy⟩ := hex
        have e2 := byt_eq s j hlt
        have HS := hide (runL_at true s j hlt)
        generalize byt s j = y at *
        have HY := hide hy; clear hy
        rcases (show smallB y = true ∨ (smallB y = false ∧ greatB y = true) ∨ (smallB y = false ∧ greatB y = false ∧ digitB y = true) ∨ (smallB y = false ∧ greatB y = false ∧ digitB y = false ∧ (y == 95) = true) ∨ (smallB y = false ∧ greatB y = false ∧ digitB y = false ∧ (y == 95) = false ∧ (y == 39) = true) by
          have := HY.out; unfold nameB at this; revert this; cases smallB y <;> cases greatB y <;> cases digitB y <;> cases y == 95 <;> simp) with y1 | ⟨y1, y2⟩ | ⟨y1, y2, y3⟩ | ⟨y1, y2, y3, y4⟩ | ⟨y1, y2, y3, y4, y5⟩
        all_goals
          go_wp2_with (first | (go_at_call 47; refine (rsmall_any _ _).mono ?_; rintro e w' ⟨rfl, rfl⟩) | (go_at_call 48; refine (rgreat_any _ _).mono ?_; rintro e w' ⟨rfl, rfl⟩) | (go_at_call 49; refine (rdigit_any _ _).mono ?_; rintro e w' ⟨rfl, rfl⟩))
          go_round
          case rel => exact ⟨j + 1, by omega, by omega, by go_num, hide (by rw [HI.out, HS.out, if_pos HY.out]; omega)⟩
          case measure => simp [intOf]; omega
      · have HZ : Hid (k + runL true (s.toList.drop k) = j) := by
          refine hide ?_
          by_cases hlt : j < s.size
          · rw [HI.out, runL_at true s j hlt, if_neg (by simpa [hlt] using hex)]; rfl
          · rw [HI.out, runL_end true s j (by omega)]; rfl
        have HX := hide (extract_to s k j (by omega))
        rw [show j - k = runL true (s.toList.drop k) by have := HZ.out; omega] at HX
        have hout : j < s.size → smallB (byt s j) = false ∧ greatB (byt s j) = false ∧ digitB (byt s j) = false ∧ (byt s j == 95) = false ∧ (byt s j == 39) = false := by
          intro hlt
          have hy : nameB true (byt s j) = false := by simpa [hlt] using hex
          simpa [nameB, and_assoc] using hy
        clear hex HI
        by_cases hlt : j < s.size
        all_goals
          try (obtain ⟨y1, y2, y3, y4, y5⟩ := hout hlt; have e2 := byt_eq s j hlt)
          clear hout
          try generalize byt s j = y at *
          cases hu : ((s.extract k j).toList == [95])
          · go_wp2_with (first | (go_at_call 47; refine (rsmall_any _ _).mono ?_; rintro e w' ⟨rfl, rfl⟩) | (go_at_call 48; refine (rgreat_any _ _).mono ?_; rintro e w' ⟨rfl, rfl⟩) | (go_at_call 49; refine (rdigit_any _ _).mono ?_; rintro e w' ⟨rfl, rfl⟩) | (go_at_call 50; refine (words_any _).mono ?_; rintro e w1 ⟨rfl, hb1⟩))
            go_loop [10] (fun v => ∃ m : Nat, m ≤ 13 ∧ v = .int .i64 m ∧ Hid (∀ i, i < m → ¬ keyWords.getD i [] = (s.extract k j).toList)) (fun v => 13 - (intOf v).toNat)
            case atStart => exact ⟨0, by omega, rfl, hide (by intro i hi; omega)⟩
            case round =>
              obtain ⟨m, hm, rfl, HM⟩ := hrel
              have hbb := hb1.alloc hb1.size (.cells #[.string ⟨#[108, 101, 116]⟩, .string ⟨#[114, 101, 99]⟩, .string ⟨#[105, 110]⟩, .string ⟨#[102, 117, 110]⟩, .string ⟨#[105, 102]⟩, .string ⟨#[116, 104, 101, 110]⟩, .string ⟨#[101, 108, 115, 101]⟩, .string ⟨#[109, 97, 116, 99, 104]⟩, .string ⟨#[119, 105, 116, 104]⟩, .string ⟨#[116, 121, 112, 101]⟩, .string ⟨#[111, 102]⟩, .string ⟨#[116, 114, 117, 101]⟩, .string ⟨#[102, 97, 108, 115, 101]⟩] 57)
              by_cases hlt13 : m < 13
              · have hc := words_cell w1 57 m hlt13
                have HK := hide (kw_mem m hlt13)
                generalize hkv : keyWords.getD m [] = kv at *
                have HKV := hide hkv; clear hkv
                cases hkw : (kv == (s.extract k j).toList)
                · go_wp2
                  go_round
                  case rel => exact ⟨m + 1, by omega, by go_num, hide (by
                    intro i hi
                    rcases Nat.lt_succ_iff_lt_or_eq.1 hi with h | rfl
                    · exact HM.out i h
                    · rw [HKV.out]; simpa using hkw)⟩
                  case measure => simp [intOf]; omega
                · go_wp2
                  go_ret2
                  have hmem := HK.out
                  simp only [beq_iff_eq] at hkw
                  rw [hkw] at hmem
                  refine one_close (runL true (s.toList.drop k)) (by rw [HT.out, ← HX.out, kind_key _ hu hmem]) (by rw [HR.out]; omega) HZ.out hbb
              · go_wp2
                go_ret2
                have hnm := kind_name _ hu (fun i hi => HM.out i (by omega))
                refine one_close (runL true (s.toList.drop k)) (by rw [HT.out, ← HX.out, hnm]) (by rw [HR.out]; omega) HZ.out hbb
          · go_wp2_with (first | (go_at_call 47; refine (rsmall_any _ _).mono ?_; rintro e w' ⟨rfl, rfl⟩) | (go_at_call 48; refine (rgreat_any _ _).mono ?_; rintro e w' ⟨rfl, rfl⟩) | (go_at_call 49; refine (rdigit_any _ _).mono ?_; rintro e w' ⟨rfl, rfl⟩) | (go_at_call 50; refine (words_any _).mono ?_; rintro e w1 ⟨rfl, hb1⟩))
            go_ret2
            refine one_close (runL true (s.toList.drop k)) (by rw [HT.out, ← HX.out]; simp at hu; simp [wordKindL, hu]) (by rw [HR.out]; omega) HZ.out (Below.refl _ _)
set_option maxRecDepth 100000 in
set_option maxHeartbeats 4000000 in
theorem one_great (s : ByteArray) (k : Nat) (w : World) (hk : k < s.size) (hs : s.size ≤ 1000000) (h1 : (smallB (byt s k) || byt s k == 95) = false) (h2 : greatB (byt s k) = true) :
    Calls Try.prog 39 #[.string s, .int .i64 k] w (OneOut s k w) := by
  have e1 := byt_eq s k hk
  have HT := hide (tokenL_great s k hk h1 h2)
  have HR := hide (runL_at true s k hk)
  have HF := hide (drop_byt s k hk)
  generalize byt s k = x at *
  have hn : nameB true x = true := by
    unfold nameB; simp [h2]
  rw [if_pos hn] at HR
  obtain ⟨g1, g3⟩ : smallB x = false ∧ (x == 95) = false := by simpa using h1
  clear h1
  all_goals
    go_enter Try.func39, Try.ntmps39
    go_wp2_with (first | (go_at_call 47; refine (rsmall_any _ _).mono ?_; rintro e w' ⟨rfl, rfl⟩) | (go_at_call 48; refine (rgreat_any _ _).mono ?_; rintro e w' ⟨rfl, rfl⟩))
    go_loop [7] (fun v => ∃ j : Nat, k + 1 ≤ j ∧ j ≤ s.size ∧ v = .int .i64 j ∧ Hid (k + runL true (s.toList.drop k) = j + runL true (s.toList.drop j))) (fun v => s.size - (intOf v).toNat)
    case atStart => exact ⟨k + 1, Nat.le_refl _, by omega, by go_num, hide (by rw [HR.out]; omega)⟩
    case round =>
      obtain ⟨j, hkj, hj, rfl, HI⟩ := hrel
      by_cases hex : j < s.size ∧ nameB true (byt s j) = true
      · obtain ⟨hlt, hy⟩ := hex
        have e2 := byt_eq s j hlt
        have HS := hide (runL_at true s j hlt)
        generalize byt s j = y at *
        have HY := hide hy; clear hy
        rcases (show smallB y = true ∨ (smallB y = false ∧ greatB y = true) ∨ (smallB y = false ∧ greatB y = false ∧ digitB y = true) ∨ (smallB y = false ∧ greatB y = false ∧ digitB y = false ∧ (y == 95) = true) ∨ (smallB y = false ∧ greatB y = false ∧ digitB y = false ∧ (y == 95) = false ∧ (y == 39) = true) by
          have := HY.out; unfold nameB at this; revert this; cases smallB y <;> cases greatB y <;> cases digitB y <;> cases y == 95 <;> simp) with y1 | ⟨y1, y2⟩ | ⟨y1, y2, y3⟩ | ⟨y1, y2, y3, y4⟩ | ⟨y1, y2, y3, y4, y5⟩
        all_goals
          go_wp2_with (first | (go_at_call 47; refine (rsmall_any _ _).mono ?_; rintro e w' ⟨rfl, rfl⟩) | (go_at_call 48; refine (rgreat_any _ _).mono ?_; rintro e w' ⟨rfl, rfl⟩) | (go_at_call 49; refine (rdigit_any _ _).mono ?_; rintro e w' ⟨rfl, rfl⟩))
          go_round
          case rel => exact ⟨j + 1, by omega, by omega, by go_num, hide (by rw [HI.out, HS.out, if_pos HY.out]; omega)⟩
          case measure => simp [intOf]; omega
      · have HZ : Hid (k + runL true (s.toList.drop k) = j) := by
          refine hide ?_
          by_cases hlt : j < s.size
          · rw [HI.out, runL_at true s j hlt, if_neg (by simpa [hlt] using hex)]; rfl
          · rw [HI.out, runL_end true s j (by omega)]; rfl
        have HX := hide (extract_to s k j (by omega))
        rw [show j - k = runL true (s.toList.drop k) by have := HZ.out; omega] at HX
        have hout : j < s.size → smallB (byt s j) = false ∧ greatB (byt s j) = false ∧ digitB (byt s j) = false ∧ (byt s j == 95) = false ∧ (byt s j == 39) = false := by
          intro hlt
          have hy : nameB true (byt s j) = false := by simpa [hlt] using hex
          simpa [nameB, and_assoc] using hy
        clear hex HI
        by_cases hlt : j < s.size
        all_goals
          try (obtain ⟨y1, y2, y3, y4, y5⟩ := hout hlt; have e2 := byt_eq s j hlt)
          clear hout
          try generalize byt s j = y at *
          have hu : ((s.extract k j).toList == [95]) = false := by
            rw [HX.out, HR.out]
            obtain ⟨c, hc, e⟩ := HF.out
            rw [e, beq_eq_false_iff_ne, Nat.add_comm, List.take_succ_cons]
            intro e'
            injection e' with e' _
            subst e'
            rw [beq_eq_false_iff_ne] at g3
            exact g3 (by rw [← hc]; rfl)
          go_wp2_with (first | (go_at_call 47; refine (rsmall_any _ _).mono ?_; rintro e w' ⟨rfl, rfl⟩) | (go_at_call 48; refine (rgreat_any _ _).mono ?_; rintro e w' ⟨rfl, rfl⟩) | (go_at_call 49; refine (rdigit_any _ _).mono ?_; rintro e w' ⟨rfl, rfl⟩))
          go_ret2
          refine one_close (runL true (s.toList.drop k)) HT.out (by rw [HR.out]; omega) HZ.out (Below.refl _ _)

set_option maxRecDepth 100000 in
set_option maxHeartbeats 4000000 in
theorem one_digit (s : ByteArray) (k : Nat) (w : World) (hk : k < s.size) (hs : s.size ≤ 1000000) (h1 : (smallB (byt s k) || byt s k == 95) = false) (h2 : greatB (byt s k) = false) (h3 : digitB (byt s k) = true) :
    Calls Try.prog 39 #[.string s, .int .i64 k] w (OneOut s k w) := by
  have e1 := byt_eq s k hk
  have HT := hide (tokenL_digit s k hk h1 h2 h3)
  generalize byt s k = x at *
  obtain ⟨g1, g3⟩ : smallB x = false ∧ (x == 95) = false := by simpa using h1
  clear h1
  go_enter Try.func39, Try.ntmps39
  go_wp2_with (first | (go_at_call 47; refine (rsmall_any _ _).mono ?_; rintro e w' ⟨rfl, rfl⟩) | (go_at_call 48; refine (rgreat_any _ _).mono ?_; rintro e w' ⟨rfl, rfl⟩) | (go_at_call 49; refine (rdigit_any _ _).mono ?_; rintro e w' ⟨rfl, rfl⟩))
  go_loop [7] (fun v => ∃ j : Nat, k + 1 ≤ j ∧ j ≤ s.size ∧ v = .int .i64 j ∧ Hid (k + 1 + digL (s.toList.drop (k + 1)) = j + digL (s.toList.drop j))) (fun v => s.size - (intOf v).toNat)
  case atStart => exact ⟨k + 1, Nat.le_refl _, by omega, by go_num, rfl⟩
  case round =>
    obtain ⟨j, hkj, hj, rfl, HI⟩ := hrel
    by_cases hlt : j < s.size
    · have e2 := byt_eq s j hlt
      have HS := hide (digL_at s j hlt)
      generalize byt s j = y at *
      cases hy : digitB y
      · go_wp2_with (first | (go_at_call 47; refine (rsmall_any _ _).mono ?_; rintro e w' ⟨rfl, rfl⟩) | (go_at_call 48; refine (rgreat_any _ _).mono ?_; rintro e w' ⟨rfl, rfl⟩) | (go_at_call 49; refine (rdigit_any _ _).mono ?_; rintro e w' ⟨rfl, rfl⟩))
        go_ret2
        have h := HI.out
        rw [HS.out, if_neg (by simp [hy])] at h
        exact one_close _ HT.out (by omega) (by omega) (Below.refl _ _)
      · go_wp2_with (first | (go_at_call 47; refine (rsmall_any _ _).mono ?_; rintro e w' ⟨rfl, rfl⟩) | (go_at_call 48; refine (rgreat_any _ _).mono ?_; rintro e w' ⟨rfl, rfl⟩) | (go_at_call 49; refine (rdigit_any _ _).mono ?_; rintro e w' ⟨rfl, rfl⟩))
        go_round
        case rel => exact ⟨j + 1, by omega, by omega, by go_num, hide (by rw [HI.out, HS.out, if_pos hy]; omega)⟩
        case measure => simp [intOf]; omega
    · go_wp2_with (first | (go_at_call 47; refine (rsmall_any _ _).mono ?_; rintro e w' ⟨rfl, rfl⟩) | (go_at_call 48; refine (rgreat_any _ _).mono ?_; rintro e w' ⟨rfl, rfl⟩) | (go_at_call 49; refine (rdigit_any _ _).mono ?_; rintro e w' ⟨rfl, rfl⟩))
      go_ret2
      have h := HI.out
      rw [digL_end s j (by omega)] at h
      exact one_close _ HT.out (by omega) (by omega) (Below.refl _ _)

set_option maxRecDepth 100000 in
set_option maxHeartbeats 4000000 in
theorem one_tick (s : ByteArray) (k : Nat) (w : World) (hk : k < s.size) (hs : s.size ≤ 1000000) (h4 : byt s k = 39) (hlt1 : k + 1 < s.size) (h5 : smallB (byt s (k + 1)) = true) :
    Calls Try.prog 39 #[.string s, .int .i64 k] w (OneOut s k w) := by
  have e1 := byt_eq s k hk
  have HT := hide (tokenL_tick s k hk h4)
  rw [h4] at e1
  rw [h5, if_pos (by simpa using hlt1)] at HT
  clear h4
  have e3 := byt_eq s (k + 1) hlt1
  have HR := hide (runL_at false s (k + 1) hlt1)
  rw [if_pos (show nameB false (byt s (k + 1)) = true by unfold nameB; simp [h5])] at HR
  generalize byt s (k + 1) = z at *
  have g1 : smallB 39 = false := rfl
  have g2 : greatB 39 = false := rfl
  have g3 : digitB 39 = false := rfl
  go_enter Try.func39, Try.ntmps39
  go_wp2_with (first | (go_at_call 47; refine (rsmall_any _ _).mono ?_; rintro e w' ⟨rfl, rfl⟩) | (go_at_call 48; refine (rgreat_any _ _).mono ?_; rintro e w' ⟨rfl, rfl⟩) | (go_at_call 49; refine (rdigit_any _ _).mono ?_; rintro e w' ⟨rfl, rfl⟩))
  go_loop [7] (fun v => ∃ j : Nat, k + 1 ≤ j ∧ j ≤ s.size ∧ v = .int .i64 j ∧ Hid (k + 1 + runL false (s.toList.drop (k + 1)) = j + runL false (s.toList.drop j))) (fun v => s.size - (intOf v).toNat)
  case atStart => exact ⟨k + 1, Nat.le_refl _, by omega, by go_num, rfl⟩
  case round =>
    obtain ⟨j, hkj, hj, rfl, HI⟩ := hrel
    clear e3
    by_cases hlt : j < s.size
    · have e2 := byt_eq s j hlt
      have HS := hide (runL_at false s j hlt)
      generalize byt s j = y at *
      cases hy : nameB false y
      · obtain ⟨y1, y2, y3, y4⟩ : smallB y = false ∧ greatB y = false ∧ digitB y = false ∧ (y == 95) = false := by
          simpa [nameB, and_assoc] using hy
        have HY := hide hy; clear hy
        go_wp2_with (first | (go_at_call 47; refine (rsmall_any _ _).mono ?_; rintro e w' ⟨rfl, rfl⟩) | (go_at_call 48; refine (rgreat_any _ _).mono ?_; rintro e w' ⟨rfl, rfl⟩) | (go_at_call 49; refine (rdigit_any _ _).mono ?_; rintro e w' ⟨rfl, rfl⟩))
        go_ret2
        have h := HI.out
        rw [HS.out, if_neg (by simp [HY.out])] at h
        exact one_close _ HT.out (by omega) (by omega) (Below.refl _ _)
      · have HY := hide hy; clear hy
        rcases (show smallB y = true ∨ (smallB y = false ∧ greatB y = true) ∨ (smallB y = false ∧ greatB y = false ∧ digitB y = true) ∨ (smallB y = false ∧ greatB y = false ∧ digitB y = false ∧ (y == 95) = true) by
          have := HY.out; unfold nameB at this; revert this; cases smallB y <;> cases greatB y <;> cases digitB y <;> cases y == 95 <;> simp) with y1 | ⟨y1, y2⟩ | ⟨y1, y2, y3⟩ | ⟨y1, y2, y3, y4⟩
        all_goals
          go_wp2_with (first | (go_at_call 47; refine (rsmall_any _ _).mono ?_; rintro e w' ⟨rfl, rfl⟩) | (go_at_call 48; refine (rgreat_any _ _).mono ?_; rintro e w' ⟨rfl, rfl⟩) | (go_at_call 49; refine (rdigit_any _ _).mono ?_; rintro e w' ⟨rfl, rfl⟩))
          go_round
          case rel => exact ⟨j + 1, by omega, by omega, by go_num, hide (by rw [HI.out, HS.out, if_pos HY.out]; omega)⟩
          case measure => simp [intOf]; omega
    · go_wp2_with (first | (go_at_call 47; refine (rsmall_any _ _).mono ?_; rintro e w' ⟨rfl, rfl⟩) | (go_at_call 48; refine (rgreat_any _ _).mono ?_; rintro e w' ⟨rfl, rfl⟩) | (go_at_call 49; refine (rdigit_any _ _).mono ?_; rintro e w' ⟨rfl, rfl⟩))
      go_ret2
      have h := HI.out
      rw [runL_end false s j (by omega)] at h
      exact one_close _ HT.out (by omega) (by omega) (Below.refl _ _)

end Go.Proofs.Ytniofjeefphlmaa
