/- The contract of the reference lexer's one, at signs and at nothing. -/
import Derived.Test.YtniofjeefphlmaaOne
import Derived.IntWalk
namespace Go.Proofs.Ytniofjeefphlmaa
open Go.RowKit
set_option linter.unusedVariables false

def atL (l u : Bs) : Bool := l.take u.length == u
theorem atB_atL (s : ByteArray) (k : Nat) (u : Bs) : atB s k ⟨u.toArray⟩ = atL (s.toList.drop k) u := by
  unfold atB atL
  have h := size_toList ⟨u.toArray⟩
  rw [ByteArray.toList_mk] at h
  rw [show (ByteArray.mk u.toArray).toList = u from ByteArray.toList_mk u, ← h]
theorem sw_le (m : Nat) : (signWords.getD m []).length ≤ 2 := by
  by_cases h : m < 13
  · match m, h with
    | 0, _ | 1, _ | 2, _ | 3, _ | 4, _ | 5, _ | 6, _ | 7, _ | 8, _ | 9, _ | 10, _ | 11, _ | 12, _ => decide
  · rw [List.getD_eq_getElem?_getD, List.getElem?_eq_none (by show 13 ≤ m; omega)]; decide
theorem sw_pos (m : Nat) (h : m < 13) : 0 < (signWords.getD m []).length := by
  match m, h with
  | 0, _ | 1, _ | 2, _ | 3, _ | 4, _ | 5, _ | 6, _ | 7, _ | 8, _ | 9, _ | 10, _ | 11, _ | 12, _ => decide
theorem one_close' {s : ByteArray} {k : Nat} {J K : Int} {w w' : World} (z : Nat) (hT : tokenL (s.toList.drop k) = (K, z)) (hz : 0 < z) (hj : (k : Int) + z = J) (hb : Below w.heap.size w w') :
    OneOut s k w (.returned (.tuple #[.int .i64 K, .int .i64 J])) w' := by
  have := one_close (s := s) (k := k) (j := k + z) (K := K) (w := w) (w' := w') z hT hz rfl hb
  rw [← hj]
  simpa using this
theorem sign_found (c : UInt8) (r : Bs) (m : Nat) (hm : m < 13) (h95 : ((c.toNat : Int) == 95) = false) (h : atL (c :: r) (signWords.getD m []) = true) (hp : ∀ i, i < m → atL (c :: r) (signWords.getD i []) = false) :
    signL (c :: r) = (signWords.getD m []).length := by
  have q0 := hp 0
  have q1 := hp 1
  have q2 := hp 2
  clear hp
  rcases r with _ | ⟨d, r⟩
  all_goals
    match m, hm with
    | 0, _ | 1, _ | 2, _ | 3, _ | 4, _ | 5, _ | 6, _ | 7, _ | 8, _ | 9, _ | 10, _ | 11, _ | 12, _ =>
      simp [atL, signWords] at h q0 q1 q2 <;> (try (obtain ⟨rfl, rfl⟩ := h)) <;> (try subst h) <;>
      first | (simp at h95; done) | (simp [signL, sign2B, sign1B, signWords]; done) | (simp [← UInt8.toNat_inj] at q0 <;> simp [signL, sign2B, sign1B, signWords] <;> omega)
theorem sign_none (c : UInt8) (r : Bs) (hp : ∀ i, i < 13 → atL (c :: r) (signWords.getD i []) = false) : signL (c :: r) = 0 := by
  have q0 := hp 0 (by omega)
  have q1 := hp 1 (by omega)
  have q2 := hp 2 (by omega)
  have q3 := hp 3 (by omega)
  have q4 := hp 4 (by omega)
  have q5 := hp 5 (by omega)
  have q6 := hp 6 (by omega)
  have q7 := hp 7 (by omega)
  have q8 := hp 8 (by omega)
  have q9 := hp 9 (by omega)
  have q10 := hp 10 (by omega)
  have q11 := hp 11 (by omega)
  clear hp
  simp [atL, signWords, ← UInt8.toNat_inj] at q0 q1 q2 q3 q4 q5 q6 q7 q8 q9 q10 q11
  rcases r with _ | ⟨d, r⟩
  · simp [signL, sign1B]; omega
  · simp [← UInt8.toNat_inj] at q0 q1 q2
    simp only [signL]; rw [if_neg (by simp [sign2B]; omega), if_neg (by simp [sign1B]; omega)]
theorem sign_39 (c : UInt8) (r : Bs) (h : (c.toNat : Int) = 39) : signL (c :: r) = 0 := by
  rcases r with _ | ⟨d, r⟩ <;> simp [signL, h, sign1B, sign2B]

/-- What is known where neither a name, a great one, a number nor a tick begins. -/
structure SignHere (s : ByteArray) (k : Nat) : Prop where
  lt : k < s.size
  word : (smallB (byt s k) || byt s k == 95) = false
  great : greatB (byt s k) = false
  digit : digitB (byt s k) = false
  tick : byt s k = 39 → k + 1 < s.size → smallB (byt s (k + 1)) = false
theorem SignHere.token {s : ByteArray} {k : Nat} (h : SignHere s k) : tokenL (s.toList.drop k) = if 0 < signL (s.toList.drop k) then (6, signL (s.toList.drop k)) else (0, 0) := by
  by_cases h4 : byt s k = 39
  · rw [tokenL_tick s k h.lt h4]
    obtain ⟨c, hc, e⟩ := drop_byt s k h.lt
    rw [e, sign_39 c _ (by rw [hc, h4]), if_neg (by
      intro hh
      rw [Bool.and_eq_true, decide_eq_true_eq] at hh
      rw [h.tick h4 hh.1] at hh
      exact absurd hh.2 (by decide))]
    rfl
  · exact tokenL_sign s k h.lt h.word h.great h.digit (by simpa using h4)

set_option maxRecDepth 100000 in
set_option maxHeartbeats 4000000 in
theorem one_sign (s : ByteArray) (k : Nat) (w : World) (hs : s.size ≤ 1000000) (h : SignHere s k) :
    Calls Try.prog 39 #[.string s, .int .i64 k] w (OneOut s k w) := by
  have hk := h.lt
  have e1 := byt_eq s k hk
  have HT := hide h.token
  obtain ⟨c, hc, e⟩ := drop_byt s k hk
  have HF : Hid (∀ m, m < 13 → atL (s.toList.drop k) (signWords.getD m []) = true → (∀ i, i < m → atL (s.toList.drop k) (signWords.getD i []) = false) → signL (s.toList.drop k) = (signWords.getD m []).length) := by
    rw [e]
    exact hide fun m hm => sign_found c _ m hm (by have := h.word; simp at this; rw [hc]; simpa using this.2)
  have HN : Hid ((∀ i, i < 13 → atL (s.toList.drop k) (signWords.getD i []) = false) → signL (s.toList.drop k) = 0) := by
    rw [e]; exact hide (sign_none c _)
  clear e hc
  have hw := h.word; have hg := h.great; have hd := h.digit; have htk := h.tick
  clear h
  generalize byt s k = x at *
  obtain ⟨g1, g3⟩ : smallB x = false ∧ (x == 95) = false := by simpa using hw
  clear hw
  rcases (show (x == 39) = false ∨ ((x == 39) = true ∧ ¬ k + 1 < s.size) ∨ ((x == 39) = true ∧ k + 1 < s.size ∧ smallB (byt s (k + 1)) = false) by
    cases h39 : x == 39
    · exact .inl rfl
    · by_cases hlt : k + 1 < s.size
      · exact .inr (.inr ⟨rfl, hlt, htk (by simpa using h39) hlt⟩)
      · exact .inr (.inl ⟨rfl, hlt⟩)) with g4 | ⟨g4, g5⟩ | ⟨g4, g5, g6⟩
  all_goals
    clear htk
    try (have e3 := byt_eq s (k + 1) g5)
    try generalize byt s (k + 1) = y at *
    go_enter Try.func39, Try.ntmps39
    go_wp2_with (first | (go_at_call 47; refine (rsmall_any _ _).mono ?_; rintro e w' ⟨rfl, rfl⟩) | (go_at_call 48; refine (rgreat_any _ _).mono ?_; rintro e w' ⟨rfl, rfl⟩) | (go_at_call 49; refine (rdigit_any _ _).mono ?_; rintro e w' ⟨rfl, rfl⟩) | (go_at_call 51; refine (signs_any _).mono ?_; rintro e w1 ⟨rfl, hb1⟩))
    go_loopw [12] (fun v wr => ∃ m q : Nat, m ≤ 13 ∧ v = .int .i64 m ∧ wr = (w1.alloc (.cells #[.string ⟨#[45, 62]⟩, .string ⟨#[58, 58]⟩, .string ⟨#[59, 59]⟩, .string ⟨#[40]⟩, .string ⟨#[41]⟩, .string ⟨#[44]⟩, .string ⟨#[124]⟩, .string ⟨#[61]⟩, .string ⟨#[60]⟩, .string ⟨#[43]⟩, .string ⟨#[45]⟩, .string ⟨#[42]⟩, .string ⟨#[95]⟩] 57)).drewN q ∧ Hid (∀ i, i < m → atL (s.toList.drop k) (signWords.getD i []) = false)) (fun v _ => 13 - (intOf v).toNat)
    case atStart => exact ⟨0, 0, by omega, rfl, rfl, hide (by intro i hi; omega)⟩
    case round =>
      obtain ⟨m, q, hm, rfl, rfl, HM⟩ := hrel
      have hbb := below_drewN (hb1.alloc hb1.size (.cells #[.string ⟨#[45, 62]⟩, .string ⟨#[58, 58]⟩, .string ⟨#[59, 59]⟩, .string ⟨#[40]⟩, .string ⟨#[41]⟩, .string ⟨#[44]⟩, .string ⟨#[124]⟩, .string ⟨#[61]⟩, .string ⟨#[60]⟩, .string ⟨#[43]⟩, .string ⟨#[45]⟩, .string ⟨#[42]⟩, .string ⟨#[95]⟩] 57)) q
      by_cases hlt13 : m < 13
      · have hc := signs_cell w1 57 m hlt13
        have HA := hide (atB_atL s k (signWords.getD m []))
        have hle := sw_le m
        have HFm := hide (HF.out m hlt13)
        have hz := size_toList ⟨(signWords.getD m []).toArray⟩
        rw [ByteArray.toList_mk] at hz
        generalize hsv : signWords.getD m [] = sv at *
        have HSV := hide hsv; clear hsv
        have HSZ := hide (show (ByteArray.mk sv.toArray).size ≤ 1000000 by omega)
        have hz1 : ((ByteArray.mk sv.toArray).size : Int) ≤ 2 := by omega
        have HZ := hide hz; clear hz
        cases hat : atL (s.toList.drop k) sv
        · have HAT := hide hat; clear hat
          rw [HAT.out] at HA
          go_wp2_with (first | (go_at_call 37; refine (at_any _ _ _ _ (by omega) (by omega) hs HSZ.out).mono ?_; rintro e w' ⟨rfl, rfl⟩; rw [Int.toNat_natCast, HA.out]))
          go_roundw
          case rel => exact ⟨m + 1, q, by omega, by go_num, rfl, hide (by
            intro i hi
            rcases Nat.lt_succ_iff_lt_or_eq.1 hi with h | rfl
            · exact HM.out i h
            · rw [HSV.out]; exact HAT.out)⟩
          case measure => simp [intOf]; omega
        · have HAT := hide hat; clear hat
          rw [HAT.out] at HA
          go_wp2_with (first | (go_at_call 37; refine (at_any _ _ _ _ (by omega) (by omega) hs HSZ.out).mono ?_; rintro e w' ⟨rfl, rfl⟩; rw [Int.toNat_natCast, HA.out]))
          have hwrap : IntKind.i64.wrap ((k : Int) + sv.length) = (k : Int) + sv.length := IntWalk.i64_in _ (by omega)
          go_quiet (fail)
          clear hwrap
          go_wp2
          go_ret2
          have hf := HFm.out HAT.out (fun i hi => HM.out i hi)
          have hpos : 0 < sv.length := by rw [← HSV.out]; exact sw_pos m hlt13
          refine one_close' sv.length (by rw [HT.out, hf, if_pos hpos]) hpos rfl (below_drewN hbb _)
      · go_wp2
        go_ret2
        have hn := HN.out (fun i hi => HM.out i (by omega))
        refine one_none (by rw [HT.out, hn]; rfl) hbb

theorem one_any (s : ByteArray) (a : Int) (w : World) (h0 : 0 ≤ a) (h1 : a < s.size) (hs : s.size ≤ 1000000) :
    Calls Try.prog 39 #[.string s, .int .i64 a] w fun e w' => e = .returned (.tuple #[.int .i64 (tokenL (s.toList.drop a.toNat)).1, .int .i64 (oneE a.toNat (tokenL (s.toList.drop a.toNat)) : Nat)]) ∧ Below w.heap.size w w' := by
  obtain ⟨k, rfl⟩ := Int.eq_ofNat_of_zero_le h0
  rw [Int.toNat_natCast]
  have hk : k < s.size := by omega
  cases g1 : (smallB (byt s k) || byt s k == 95)
  · cases g2 : greatB (byt s k)
    · cases g3 : digitB (byt s k)
      · by_cases g4 : byt s k = 39 ∧ k + 1 < s.size ∧ smallB (byt s (k + 1)) = true
        · exact one_tick s k w hk hs g4.1 g4.2.1 g4.2.2
        · exact one_sign s k w hs ⟨hk, g1, g2, g3, fun h h' => by
            cases h5 : smallB (byt s (k + 1))
            · rfl
            · exact absurd ⟨h, h', h5⟩ g4⟩
      · exact one_digit s k w hk hs g1 g2 g3
    · exact one_great s k w hk hs g1 g2
  · exact one_word s k w hk hs g1
end Go.Proofs.Ytniofjeefphlmaa
