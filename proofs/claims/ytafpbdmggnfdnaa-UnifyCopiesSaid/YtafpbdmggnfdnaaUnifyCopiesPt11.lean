/- Part 11 of the proof of UnifyCopies: what follows was kept as these texts: One2, RefLex, WordsRef, RefMake. -/
import Derived.Test.YtafpbdmggnfdnaaUnifyCopiesPt1
import Derived.Test.YtafpbdmggnfdnaaUnifyCopiesPt2
import Derived.Test.YtafpbdmggnfdnaaUnifyCopiesPt3
import Derived.Test.YtafpbdmggnfdnaaUnifyCopiesPt4
import Derived.Test.YtafpbdmggnfdnaaUnifyCopiesPt5
import Derived.Test.YtafpbdmggnfdnaaUnifyCopiesPt6
import Derived.Test.YtafpbdmggnfdnaaUnifyCopiesPt7
import Derived.Test.YtafpbdmggnfdnaaUnifyCopiesPt8
import Derived.Test.YtafpbdmggnfdnaaUnifyCopiesPt9
import Derived.Test.YtafpbdmggnfdnaaUnifyCopiesPt10
import Derived.IntWalk
/- The contract of the reference lexer's one, at signs and at nothing. -/
namespace Go.Proofs.Ytafpbdmggnfdnaa
open Go.RowKit
set_option linter.unusedVariables false

def atL (l u : Bs) : Bool := l.take u.length == u
theorem atB_atL (s : ByteArray) (k : Nat) (u : Bs) : atB s k ⟨u.toArray⟩ = atL (s.toList.drop k) u := by
  unfold atB atL
  have h := size_toList ⟨u.toArray⟩
  rw [ByteArray.toList_mk] at h
  rw [show (ByteArray.mk u.toArray).toList = u from ByteArray.toList_mk u, ← h]
theorem sw_le (m : Nat) : (signWords.getD m []).length ≤ 2 := by
  by_cases h : m < 13
  · match m, h with
    | 0, _ | 1, _ | 2, _ | 3, _ | 4, _ | 5, _ | 6, _ | 7, _ | 8, _ | 9, _ | 10, _ | 11, _ | 12, _ => decide
  · rw [List.getD_eq_getElem?_getD, List.getElem?_eq_none (by show 13 ≤ m; omega)]; decide
theorem sw_pos (m : Nat) (h : m < 13) : 0 < (signWords.getD m []).length := by
  match m, h with
  | 0, _ | 1, _ | 2, _ | 3, _ | 4, _ | 5, _ | 6, _ | 7, _ | 8, _ | 9, _ | 10, _ | 11, _ | 12, _ => decide
theorem one_close' {s : ByteArray} {k : Nat} {J K : Int} {w w' : World} (z : Nat) (hT : tokenL (s.toList.drop k) = (K, z)) (hz : 0 < z) (hj : (k : Int) + z = J) (hb : Below w.heap.size w w') :
    OneOut s k w (.returned (.tuple #[.int .i64 K, .int .i64 J])) w' := by
  have := one_close (s := s) (k := k) (j := k + z) (K := K) (w := w) (w' := w') z hT hz rfl hb
  rw [← hj]
  simpa using this
theorem sign_found (c : UInt8) (r : Bs) (m : Nat) (hm : m < 13) (h95 : ((c.toNat : Int) == 95) = false) (h : atL (c :: r) (signWords.getD m []) = true) (hp : ∀ i, i < m → atL (c :: r) (signWords.getD i []) = false) :
    signL (c :: r) = (signWords.getD m []).length := by
  have q0 := hp 0
  have q1 := hp 1
  have q2 := hp 2
  clear hp
  rcases r with _ | ⟨d, r⟩
  all_goals
    match m, hm with
    | 0, _ | 1, _ | 2, _ | 3, _ | 4, _ | 5, _ | 6, _ | 7, _ | 8, _ | 9, _ | 10, _ | 11, _ | 12, _ =>
      simp [atL, signWords] at h q0 q1 q2 <;> (try (obtain ⟨rfl, rfl⟩ := h)) <;> (try subst h) <;>
      first | (simp at h95; done) | (simp [signL, sign2B, sign1B, signWords]; done) | (simp [← UInt8.toNat_inj] at q0 <;> simp [signL, sign2B, sign1B, signWords] <;> omega)
theorem sign_none (c : UInt8) (r : Bs) (hp : ∀ i, i < 13 → atL (c :: r) (signWords.getD i []) = false) : signL (c :: r) = 0 := by
  have q0 := hp 0 (by omega)
  have q1 := hp 1 (by omega)
  have q2 := hp 2 (by omega)
  have q3 := hp 3 (by omega)
  have q4 := hp 4 (by omega)
  have q5 := hp 5 (by omega)
  have q6 := hp 6 (by omega)
  have q7 := hp 7 (by omega)
  have q8 := hp 8 (by omega)
  have q9 := hp 9 (by omega)
  have q10 := hp 10 (by omega)
  have q11 := hp 11 (by omega)
  clear hp
  simp [atL, signWords, ← UInt8.toNat_inj] at q0 q1 q2 q3 q4 q5 q6 q7 q8 q9 q10 q11
  rcases r with _ | ⟨d, r⟩
  · simp [signL, sign1B]; omega
  · simp [← UInt8.toNat_inj] at q0 q1 q2
    simp only [signL]; rw [if_neg (by simp [sign2B]; omega), if_neg (by simp [sign1B]; omega)]
theorem sign_39 (c : UInt8) (r : Bs) (h : (c.toNat : Int) = 39) : signL (c :: r) = 0 := by
  rcases r with _ | ⟨d, r⟩ <;> simp [signL, h, sign1B, sign2B]

/-- What is known where neither a name, a great one, a number nor a tick begins. -/
structure SignHere (s : ByteArray) (k : Nat) : Prop where
  lt : k < s.size
  word : (smallB (byt s k) || byt s k == 95) = false
  great : greatB (byt s k) = false
  digit : digitB (byt s k) = false
  tick : byt s k = 39 → k + 1 < s.size → smallB (byt s (k + 1)) = false
theorem SignHere.token {s : ByteArray} {k : Nat} (h : SignHere s k) : tokenL (s.toList.drop k) = if 0 < signL (s.toList.drop k) then (6, signL (s.toList.drop k)) else (0, 0) := by
  by_cases h4 : byt s k = 39
  · rw [tokenL_tick s k h.lt h4]
    obtain ⟨c, hc, e⟩ := drop_byt s k h.lt
    rw [e, sign_39 c _ (by rw [hc, h4]), if_neg (by
      intro hh
      rw [Bool.and_eq_true, decide_eq_true_eq] at hh
      rw [h.tick h4 hh.1] at hh
      exact absurd hh.2 (by decide))]
    rfl
  · exact tokenL_sign s k h.lt h.word h.great h.digit (by simpa using h4)

set_option maxRecDepth 100000 in
set_option maxHeartbeats 4000000 in
theorem one_sign (s : ByteArray) (k : Nat) (w : World) (hs : s.size ≤ 1000000) (h : SignHere s k) :
    Calls Try.prog 78 #[.string s, .int .i64 k] w (OneOut s k w) := by
  have hk := h.lt
  have e1 := byt_eq s k hk
  have HT := hide h.token
  obtain ⟨c, hc, e⟩ := drop_byt s k hk
  have HF : Hid (∀ m, m < 13 → atL (s.toList.drop k) (signWords.getD m []) = true → (∀ i, i < m → atL (s.toList.drop k) (signWords.getD i []) = false) → signL (s.toList.drop k) = (signWords.getD m []).length) := by
    rw [e]
    exact hide fun m hm => sign_found c _ m hm (by have := h.word; simp at this; rw [hc]; simpa using this.2)
  have HN : Hid ((∀ i, i < 13 → atL (s.toList.drop k) (signWords.getD i []) = false) → signL (s.toList.drop k) = 0) := by
    rw [e]; exact hide (sign_none c _)
  clear e hc
  have hw := h.word; have hg := h.great; have hd := h.digit; have htk := h.tick
  clear h
  generalize byt s k = x at *
  obtain ⟨g1, g3⟩ : smallB x = false ∧ (x == 95) = false := by simpa using hw
  clear hw
  rcases (show (x == 39) = false ∨ ((x == 39) = true ∧ ¬ k + 1 < s.size) ∨ ((x == 39) = true ∧ k + 1 < s.size ∧ smallB (byt s (k + 1)) = false) by
    cases h39 : x == 39
    · exact .inl rfl
    · by_cases hlt : k + 1 < s.size
      · exact .inr (.inr ⟨rfl, hlt, htk (by simpa using h39) hlt⟩)
      · exact .inr (.inl ⟨rfl, hlt⟩)) with g4 | ⟨g4, g5⟩ | ⟨g4, g5, g6⟩
  all_goals
    clear htk
    try (have e3 := byt_eq s (k + 1) g5)
    try generalize byt s (k + 1) = y at *
    go_enter Try.func78, Try.ntmps78
    go_wp2_with (first | (go_at_call 79; refine (rsmall_any _ _).mono ?_; rintro e w' ⟨rfl, rfl⟩) | (go_at_call 80; refine (rgreat_any _ _).mono ?_; rintro e w' ⟨rfl, rfl⟩) | (go_at_call 81; refine (rdigit_any _ _).mono ?_; rintro e w' ⟨rfl, rfl⟩) | (go_at_call 83; refine (signs_any _).mono ?_; rintro e w1 ⟨rfl, hb1⟩))
    go_loopw [12] (fun v wr => ∃ m q : Nat, m ≤ 13 ∧ v = .int .i64 m ∧ wr = (w1.alloc (.cells #[.string ⟨#[45, 62]⟩, .string ⟨#[58, 58]⟩, .string ⟨#[59, 59]⟩, .string ⟨#[40]⟩, .string ⟨#[41]⟩, .string ⟨#[44]⟩, .string ⟨#[124]⟩, .string ⟨#[61]⟩, .string ⟨#[60]⟩, .string ⟨#[43]⟩, .string ⟨#[45]⟩, .string ⟨#[42]⟩, .string ⟨#[95]⟩] 128)).drewN q ∧ Hid (∀ i, i < m → atL (s.toList.drop k) (signWords.getD i []) = false)) (fun v _ => 13 - (intOf v).toNat)
    case atStart => exact ⟨0, 0, by omega, rfl, rfl, hide (by intro i hi; omega)⟩
    case round =>
      obtain ⟨m, q, hm, rfl, rfl, HM⟩ := hrel
      have hbb := below_drewN (hb1.alloc hb1.size (.cells #[.string ⟨#[45, 62]⟩, .string ⟨#[58, 58]⟩, .string ⟨#[59, 59]⟩, .string ⟨#[40]⟩, .string ⟨#[41]⟩, .string ⟨#[44]⟩, .string ⟨#[124]⟩, .string ⟨#[61]⟩, .string ⟨#[60]⟩, .string ⟨#[43]⟩, .string ⟨#[45]⟩, .string ⟨#[42]⟩, .string ⟨#[95]⟩] 128)) q
      by_cases hlt13 : m < 13
      · have hc := signs_cell w1 128 m hlt13
        have HA := hide (atB_atL s k (signWords.getD m []))
        have hle := sw_le m
        have HFm := hide (HF.out m hlt13)
        have hz := size_toList ⟨(signWords.getD m []).toArray⟩
        rw [ByteArray.toList_mk] at hz
        generalize hsv : signWords.getD m [] = sv at *
        have HSV := hide hsv; clear hsv
        have HSZ := hide (show (ByteArray.mk sv.toArray).size ≤ 1000000 by omega)
        have hz1 : ((ByteArray.mk sv.toArray).size : Int) ≤ 2 := by omega
        have HZ := hide hz; clear hz
        cases hat : atL (s.toList.drop k) sv
        · have HAT := hide hat; clear hat
          rw [HAT.out] at HA
          go_wp2_with (first | (go_at_call 76; refine (at_any _ _ _ _ (by omega) (by omega) hs HSZ.out).mono ?_; rintro e w' ⟨rfl, rfl⟩; rw [Int.toNat_natCast, HA.out]))
          go_roundw
          case rel => exact ⟨m + 1, q, by omega, by go_num, rfl, hide (by
            intro i hi
            rcases Nat.lt_succ_iff_lt_or_eq.1 hi with h | rfl
            · exact HM.out i h
            · rw [HSV.out]; exact HAT.out)⟩
          case measure => simp [intOf]; omega
        · have HAT := hide hat; clear hat
          rw [HAT.out] at HA
          go_wp2_with (first | (go_at_call 76; refine (at_any _ _ _ _ (by omega) (by omega) hs HSZ.out).mono ?_; rintro e w' ⟨rfl, rfl⟩; rw [Int.toNat_natCast, HA.out]))
          have hwrap : IntKind.i64.wrap ((k : Int) + sv.length) = (k : Int) + sv.length := IntWalk.i64_in _ (by omega)
          go_quiet (fail)
          clear hwrap
          go_wp2
          go_ret2
          have hf := HFm.out HAT.out (fun i hi => HM.out i hi)
          have hpos : 0 < sv.length := by rw [← HSV.out]; exact sw_pos m hlt13
          refine one_close' sv.length (by rw [HT.out, hf, if_pos hpos]) hpos rfl (below_drewN hbb _)
      · go_wp2
        go_ret2
        have hn := HN.out (fun i hi => HM.out i (by omega))
        refine one_none (by rw [HT.out, hn]; rfl) hbb

theorem one_any (s : ByteArray) (a : Int) (w : World) (h0 : 0 ≤ a) (h1 : a < s.size) (hs : s.size ≤ 1000000) :
    Calls Try.prog 78 #[.string s, .int .i64 a] w fun e w' => e = .returned (.tuple #[.int .i64 (tokenL (s.toList.drop a.toNat)).1, .int .i64 (oneE a.toNat (tokenL (s.toList.drop a.toNat)) : Nat)]) ∧ Below w.heap.size w w' := by
  obtain ⟨k, rfl⟩ := Int.eq_ofNat_of_zero_le h0
  rw [Int.toNat_natCast]
  have hk : k < s.size := by omega
  cases g1 : (smallB (byt s k) || byt s k == 95)
  · cases g2 : greatB (byt s k)
    · cases g3 : digitB (byt s k)
      · by_cases g4 : byt s k = 39 ∧ k + 1 < s.size ∧ smallB (byt s (k + 1)) = true
        · exact one_tick s k w hk hs g4.1 g4.2.1 g4.2.2
        · exact one_sign s k w hs ⟨hk, g1, g2, g3, fun h h' => by
            cases h5 : smallB (byt s (k + 1))
            · rfl
            · exact absurd ⟨h, h', h5⟩ g4⟩
      · exact one_digit s k w hk hs g1 g2 g3
    · exact one_great s k w hk hs g1 g2
  · exact one_word s k w hk hs g1
end Go.Proofs.Ytafpbdmggnfdnaa

/- The contract of the reference's Lex. -/
namespace Go.Proofs.Ytafpbdmggnfdnaa
open Go.RowKit
set_option linter.unusedVariables false

theorem wordKindL_pos (l : Bs) : wordKindL l ≠ 0 := by unfold wordKindL; (repeat' split) <;> decide
theorem nm_first (c : UInt8) (h : (smallB c.toNat || (c.toNat : Int) == 95) = true ∨ greatB c.toNat = true) : nm true c = true := by
  unfold nm nameB
  rcases h with h | h
  · revert h; cases smallB c.toNat <;> simp
    intro h; simp [h]
  · simp [h]
theorem tok_zero (l : Bs) : (tokenL l).1 = 0 ↔ (tokenL l).2 = 0 := by
  rcases l with _ | ⟨c, r⟩
  · simp [tokenL]
  · simp only [tokenL]
    split
    · rename_i h
      have := nm_first c (.inl h)
      simp [wordKindL_pos, runL_cons, this]
    · split
      · rename_i h
        have := nm_first c (.inr h)
        simp [runL_cons, this]
      · split
        · simp
        · split
          · rcases r with _ | ⟨d, r⟩
            · simp
            · dsimp only
              split
              · simp
              · simp
          · split
            · simp; omega
            · simp
theorem opens_tok (l : Bs) (h : opensL l = true) : 0 < (tokenL l).2 := by
  rcases l with _ | ⟨c, _ | ⟨d, r⟩⟩
  · simp [opensL] at h
  · simp [opensL] at h
  · simp [opensL] at h
    have hc : c = 40 := by rw [← UInt8.toNat_inj]; have := h.1; simp; omega
    have hd : d = 42 := by rw [← UInt8.toNat_inj]; have := h.2; simp; omega
    subst hc hd
    simp [tokenL, smallB, greatB, digitB, signL, sign1B, sign2B]
theorem noL_at' (s : ByteArray) (k : Nat) (h : k < s.size) : noL (s.toList.drop k) = if whiteB (byt s k) || !((tokenL (s.toList.drop k)).1 == 0) then 0 else 1 + noL (s.toList.drop (k + 1)) := by
  rw [noL_at s k h]
  have h1 := tok_zero (s.toList.drop k)
  have h2 := opens_tok (s.toList.drop k)
  congr 1
  rw [Bool.eq_iff_iff]
  simp only [Bool.or_eq_true, decide_eq_true_eq, Bool.not_eq_true', beq_eq_false_iff_ne, ne_eq, h1]
  simp
  constructor
  · rintro ((h | h) | h)
    · exact .inl h
    · have := h2 h; right; omega
    · right; omega
  · rintro (h | h)
    · exact .inl (.inl h)
    · right; omega

theorem remE_eq (s : ByteArray) (k : Nat) : remE s k = if (remL (s.toList.drop k) 0 0).2 then k + (remL (s.toList.drop k) 0 0).1 else 0 := rfl
theorem own_below {w w' : World} {base : Nat} {e : TypeId} {size n : Nat} {v : Value} {xs : List Value} (h : w.ownsRow base e size v n xs) (hb : Below w.heap.size w w') : w'.ownsRow base e size v n xs :=
  h.kept (row := none) ⟨hb.os, hb.tape, hb.output, hb.size, fun i hi _ => hb.block i hi⟩ (by cases v.ownBlock <;> simp)
theorem LexRel.below' {s : ByteArray} {w wr w1 : World} {v : Value} {k : Nat} {done : List Tk} (h : LexRel s w v k done wr) (hb : Below wr.heap.size wr w1) : LexRel s w v k done w1 :=
  ⟨h.le, h.eq, h.len, own_below h.own hb, h.below.trans (hb.mono h.below.size)⟩

set_option maxRecDepth 100000 in
set_option maxHeartbeats 4000000 in
theorem rlex_any (s : ByteArray) (w : World) (hs : s.size ≤ 1000000) :
    Calls Try.prog 66 #[.string s] w fun e w' => ∃ v, e = .returned v ∧ w'.ownsRow w.heap.size 122 3 v (lx s.toList 0).length (cellsOf (lx s.toList 0)) ∧ Below w.heap.size w w' := by
  obtain ⟨i0, hi, hz0, hz1, hz2⟩ := info_parts tokInfo
  have Hi := hide hi; have Hz0 := hide hz0; have Hz1 := hide hz1; have Hz2 := hide hz2; clear hi hz0 hz1 hz2
  have HAt : Hid (∀ j, atB s j ⟨#[40, 42]⟩ = opensL (s.toList.drop j)) := atB_opens s
  go_enter Try.func66, Try.ntmps66
  go_wp2
  go_loopw [3, 4] (fun v a wr => ∃ k done, a = .int .i64 (k : Nat) ∧ LexRel s w v k done wr) (fun _ a _ => s.size - (intOf a).toNat)
  case atStart =>
    exact ⟨0, [], rfl, ⟨Nat.zero_le _, by simp, by simp, ⟨by simp [cellsOf], .inr ⟨w.heap.size, 0, #[], rfl, Nat.le_refl _, heap_alloc_new w _, by simp, by simp [maxLen], by simp, by simp [cellsOf]⟩⟩, (Below.refl _ _).alloc (Nat.le_refl _) _⟩⟩
  case round =>
    obtain ⟨k, done, rfl, HR⟩ := hrel
    have hkl := HR.len
    have hkm := HR.le
    by_cases hlt : k < s.size
    · have e1 := byt_eq s k hlt
      have HW := hide (lx_at_white s k hlt)
      have HRm := hide (lx_at_remark s k hlt)
      have HOp := hide (lx_at_open s k hlt)
      have HPc := hide (lx_at_piece s k hlt)
      have HPa := hide (pieceL_at s k hlt)
      have hpl := pieceL_at_le s k hlt
      have hrl := (remL_ge (s.toList.drop k) 0 0).2
      rw [List.length_drop, size_toList] at hrl
      have HRp := hide (remL_pos (s.toList.drop k))
      have HRn := hide (remL_not (s.toList.drop k) 0 0)
      rw [List.length_drop, size_toList] at HRn
      have HE0 := hide (remE_eq s k)
      have htz := tok_zero (s.toList.drop k)
      generalize byt s k = x at *
      generalize hM : remL (s.toList.drop k) 0 0 = M at *
      have HM := hide hM; clear hM
      generalize hT : tokenL (s.toList.drop k) = T at *
      have HT := hide hT; clear hT
      generalize hO : opensL (s.toList.drop k) = O at *
      have HO := hide hO; clear hO
      generalize hP : pieceL (s.toList.drop k) = P at *
      have HP := hide hP; clear hP
      obtain ⟨t1, t2⟩ := T
      obtain ⟨p1, p2⟩ := P
      obtain ⟨m1, m2⟩ := M
      simp only at hpl hrl htz
      cases hw : whiteB x
      · cases O
        · rcases Nat.eq_zero_or_pos t2 with ht | ht
          · obtain rfl : t1 = 0 := htz.2 ht
            subst ht
            have hp := HPa.out
            rw [if_pos rfl] at hp
            simp only [Prod.mk.injEq] at hp
            obtain ⟨rfl, rfl⟩ := hp
            have HE := hide (HPc.out hw rfl)
            clear HPa HPc HOp HRm HW htz HP
            go_wp2_with (first | (go_at_call 75; refine (rwhite_any _ _).mono ?_; rintro e w' ⟨rfl, rfl⟩) | (go_at_call 76; refine (at_any _ _ _ _ (by omega) (by omega) hs (by decide)).mono ?_; rintro e w' ⟨rfl, rfl⟩; rw [Int.toNat_natCast, HAt.out, HO.out]) | (go_at_call 78; refine (one_any _ _ _ (by omega) (by omega) hs).mono ?_; rintro e w1 ⟨rfl, hb1⟩; rw [Int.toNat_natCast, HT.out]; have HR1 := HR.below' hb1))
            obtain ⟨wo, rfl⟩ : ∃ wo : World, wo = wr := ⟨_, rfl⟩
            go_loopw [7] (fun v wr => ∃ j : Nat, k + 1 ≤ j ∧ j ≤ s.size ∧ v = .int .i64 j ∧ Hid (k + 1 + noL (s.toList.drop (k + 1)) = j + noL (s.toList.drop j)) ∧ LexRel s w u3 k done wr) (fun v _ => s.size - (intOf v).toNat)
            case atStart => exact ⟨k + 1, Nat.le_refl _, by omega, by go_num, rfl, HR1⟩
            case round =>
              obtain ⟨j, hkj, hj, rfl, HI, HR2⟩ := hrel
              clear e1
              by_cases hltj : j < s.size
              · have e2 := byt_eq s j hltj
                have HS := hide (noL_at' s j hltj)
                generalize byt s j = y at *
                generalize hTj : tokenL (s.toList.drop j) = Tj at *
                have HTj := hide hTj; clear hTj
                obtain ⟨tj1, tj2⟩ := Tj
                cases hwy : whiteB y
                · cases htj : (tj1 == 0)
                  · have HZ : Hid (k + 1 + noL (s.toList.drop (k + 1)) = j) := hide (by rw [HI.out, HS.out, if_pos (by simp [hwy, htj])]; rfl)
                    have htj' : (tj1 != 0) = true := by simpa [bne] using htj
                    clear htj
                    go_wp2_with (first | (go_at_call 75; refine (rwhite_any _ _).mono ?_; rintro e w' ⟨rfl, rfl⟩) | (go_at_call 78; refine (one_any _ _ _ (by omega) (by omega) hs).mono ?_; rintro e w2 ⟨rfl, hb2⟩; rw [Int.toNat_natCast, HTj.out]; have HR3 := HR2.below' hb2) | (at_builtin; refine wpList_append_own _ rfl (.tmp 68) (.tmp 73) 119 rfl w.heap.size 122 i0 _ 3 24 Try.underlying119 Hi.out Hz0.out Hz1.out Hz2.out rfl (by decide) _ done.length (cellsOf done) rfl (HR3.own.alloc _) ⟨w2.heap.size, 0, none⟩ 1 1 [.int .i64 7, .int .i64 k, .int .i64 (j : Int)] rfl rfl (cell_three_new _ _ _ _ _) (by intro u hu; simp at hu; rcases hu with rfl | rfl | rfl <;> rfl) (by unfold maxLen; omega) (by omega) (by have := HR3.below.size; simp; omega) ?_; intro v' w9 hown hgrow hnil))
                    have HR9 := HR3.push (7, (k : Int), (j : Int)) (by simpa [cell3] using hown) hgrow (k1 := j) (by omega) hj (by rw [HE.out]; have hz := HZ.out; rw [show k + (1 + noL (s.toList.drop (k + 1))) = j by omega]; simp only [Prod.mk.injEq, List.cons.injEq, and_true, true_and]; omega)
                    go_roundw
                    case rel => exact ⟨j, _, rfl, HR9⟩
                    case measure => simp [intOf]; omega
                  · obtain rfl : tj1 = 0 := by simpa using htj
                    clear htj
                    go_wp2_with (first | (go_at_call 75; refine (rwhite_any _ _).mono ?_; rintro e w' ⟨rfl, rfl⟩) | (go_at_call 78; refine (one_any _ _ _ (by omega) (by omega) hs).mono ?_; rintro e w2 ⟨rfl, hb2⟩; rw [Int.toNat_natCast, HTj.out]; have HR3 := HR2.below' hb2))
                    go_roundw
                    case rel => exact ⟨j + 1, by omega, by omega, by go_num, hide (by rw [HI.out, HS.out, if_neg (by simp [hwy])]; omega), HR3⟩
                    case measure => simp [intOf]; omega
                · have HZ : Hid (k + 1 + noL (s.toList.drop (k + 1)) = j) := hide (by rw [HI.out, HS.out, if_pos (by simp [hwy])]; rfl)
                  go_wp2_with (first | (go_at_call 75; refine (rwhite_any _ _).mono ?_; rintro e w' ⟨rfl, rfl⟩) | (at_builtin; refine wpList_append_own _ rfl (.tmp 68) (.tmp 73) 119 rfl w.heap.size 122 i0 _ 3 24 Try.underlying119 Hi.out Hz0.out Hz1.out Hz2.out rfl (by decide) _ done.length (cellsOf done) rfl (HR2.own.alloc _) ⟨wr.heap.size, 0, none⟩ 1 1 [.int .i64 7, .int .i64 k, .int .i64 (j : Int)] rfl rfl (cell_three_new _ _ _ _ _) (by intro u hu; simp at hu; rcases hu with rfl | rfl | rfl <;> rfl) (by unfold maxLen; omega) (by omega) (by have := HR2.below.size; simp; omega) ?_; intro v' w9 hown hgrow hnil))
                  have HR9 := HR2.push (7, (k : Int), (j : Int)) (by simpa [cell3] using hown) hgrow (k1 := j) (by omega) hj (by rw [HE.out]; have hz := HZ.out; rw [show k + (1 + noL (s.toList.drop (k + 1))) = j by omega]; simp only [Prod.mk.injEq, List.cons.injEq, and_true, true_and]; omega)
                  go_roundw
                  case rel => exact ⟨j, _, rfl, HR9⟩
                  case measure => simp [intOf]; omega
              · have HZ : Hid (k + 1 + noL (s.toList.drop (k + 1)) = j) := hide (by rw [HI.out, noL_end s j (by omega)]; rfl)
                go_wp2_with (first | (go_at_call 75; refine (rwhite_any _ _).mono ?_; rintro e w' ⟨rfl, rfl⟩) | (at_builtin; refine wpList_append_own _ rfl (.tmp 68) (.tmp 73) 119 rfl w.heap.size 122 i0 _ 3 24 Try.underlying119 Hi.out Hz0.out Hz1.out Hz2.out rfl (by decide) _ done.length (cellsOf done) rfl (HR2.own.alloc _) ⟨wr.heap.size, 0, none⟩ 1 1 [.int .i64 7, .int .i64 k, .int .i64 (j : Int)] rfl rfl (cell_three_new _ _ _ _ _) (by intro u hu; simp at hu; rcases hu with rfl | rfl | rfl <;> rfl) (by unfold maxLen; omega) (by omega) (by have := HR2.below.size; simp; omega) ?_; intro v' w9 hown hgrow hnil))
                have HR9 := HR2.push (7, (k : Int), (j : Int)) (by simpa [cell3] using hown) hgrow (k1 := j) (by omega) hj (by rw [HE.out]; have hz := HZ.out; rw [show k + (1 + noL (s.toList.drop (k + 1))) = j by omega]; simp only [Prod.mk.injEq, List.cons.injEq, and_true, true_and]; omega)
                go_roundw
                case rel => exact ⟨j, _, rfl, HR9⟩
                case measure => simp [intOf]; omega
          · have ht1 : ¬ t1 = 0 := by intro h; have := htz.1 h; omega
            have hp := HPa.out
            rw [if_neg (show ¬ t2 = 0 by omega)] at hp
            simp only [Prod.mk.injEq] at hp
            obtain ⟨rfl, rfl⟩ := hp
            have HE := hide (HPc.out hw rfl)
            clear HPa HPc HOp HRm HW htz
            have ht0 : (p1 == 0) = false := by simpa using ht1
            have hone : oneE k (p1, p2) = k + p2 := by unfold oneE; rw [if_neg (by simp only; omega)]
            go_wp2_with (first | (go_at_call 75; refine (rwhite_any _ _).mono ?_; rintro e w' ⟨rfl, rfl⟩) | (go_at_call 76; refine (at_any _ _ _ _ (by omega) (by omega) hs (by decide)).mono ?_; rintro e w' ⟨rfl, rfl⟩; rw [Int.toNat_natCast, HAt.out, HO.out]) | (go_at_call 78; refine (one_any _ _ _ (by omega) (by omega) hs).mono ?_; rintro e w1 ⟨rfl, hb1⟩; rw [Int.toNat_natCast, HT.out]; have HR1 := HR.below' hb1) | (at_builtin; refine wpList_append_own _ rfl (.tmp 68) (.tmp 73) 119 rfl w.heap.size 122 i0 _ 3 24 Try.underlying119 Hi.out Hz0.out Hz1.out Hz2.out rfl (by decide) _ done.length (cellsOf done) rfl (HR1.own.alloc _) ⟨w1.heap.size, 0, none⟩ 1 1 [.int .i64 p1, .int .i64 k, .int .i64 ((k : Int) + p2)] rfl rfl (cell_three_new _ _ _ _ _) (by intro u hu; simp at hu; rcases hu with rfl | rfl | rfl <;> rfl) (by unfold maxLen; omega) (by omega) (by have := HR1.below.size; simp; omega) ?_; intro v' w9 hown hgrow hnil))
            have HR2 := HR1.push (p1, (k : Int), (k : Int) + p2) (by simpa [cell3] using hown) hgrow (k1 := k + p2) (by omega) hpl HE.out
            go_roundw
            case rel => exact ⟨k + p2, _, by go_num, HR2⟩
            case measure => simp [intOf]; omega
        · have hrp := HRp.out rfl 0 0
          rw [HM.out] at hrp
          simp only at hrp
          cases m2
          · have HE := hide (HOp.out hw rfl rfl)
            have hrn := HRn.out rfl
            simp only at hrn
            rw [if_neg (by simp)] at HE0
            clear HPa HPc HOp HRm HW HRn
            have hsz : (k : Int) + m1 = s.size := by omega
            have HSZ := hide hsz; clear hsz hrn
            go_wp2_with (first | (go_at_call 75; refine (rwhite_any _ _).mono ?_; rintro e w' ⟨rfl, rfl⟩) | (go_at_call 76; refine (at_any _ _ _ _ (by omega) (by omega) hs (by decide)).mono ?_; rintro e w' ⟨rfl, rfl⟩; rw [Int.toNat_natCast, HAt.out, HO.out]) | (go_at_call 77; refine (rremark_at s k _ (by omega) hs).mono ?_; rintro e w' ⟨rfl, rfl⟩; rw [HE0.out]) | (at_builtin; refine wpList_append_own _ rfl (.tmp 29) (.tmp 34) 119 rfl w.heap.size 122 i0 _ 3 24 Try.underlying119 Hi.out Hz0.out Hz1.out Hz2.out rfl (by decide) _ done.length (cellsOf done) rfl (HR.own.alloc _) ⟨wr.heap.size, 0, none⟩ 1 1 [.int .i64 7, .int .i64 k, .int .i64 s.size] rfl rfl (cell_three_new _ _ _ _ _) (by intro u hu; simp at hu; rcases hu with rfl | rfl | rfl <;> rfl) (by unfold maxLen; omega) (by omega) (by have := HR.below.size; simp; omega) ?_; intro v' w9 hown hgrow hnil))
            have HR1 := HR.push (k1 := s.size) (7, (k : Int), (s.size : Int)) (by simpa [cell3] using hown) hgrow hlt (Nat.le_refl _) (by rw [HE.out, List.drop_of_length_le (i := s.size) (by rw [size_toList]; omega), lx_nil, ← HSZ.out]; simp)
            go_ret
            have h := HR1.eq
            rw [List.drop_of_length_le (i := s.size) (by rw [size_toList]; omega), lx_nil, List.append_nil] at h
            rw [h]
            exact ⟨_, rfl, HR1.own, HR1.below⟩
          · have HE := hide (HRm.out hw rfl rfl)
            rw [if_pos rfl] at HE0
            have hnz : (((k + m1 : Nat) : Int) == 0) = false := by simp; omega
            clear HPa HPc HOp HRm HW HRn
            go_wp2_with (first | (go_at_call 75; refine (rwhite_any _ _).mono ?_; rintro e w' ⟨rfl, rfl⟩) | (go_at_call 76; refine (at_any _ _ _ _ (by omega) (by omega) hs (by decide)).mono ?_; rintro e w' ⟨rfl, rfl⟩; rw [Int.toNat_natCast, HAt.out, HO.out]) | (go_at_call 77; refine (rremark_at s k _ (by omega) hs).mono ?_; rintro e w' ⟨rfl, rfl⟩; rw [HE0.out]))
            go_roundw
            case rel => exact ⟨k + m1, done, by go_num, ⟨by omega, by rw [HR.eq, HE.out], by omega, HR.own, HR.below⟩⟩
            case measure => simp [intOf]; omega
      · have HWE := hide (HW.out hw)
        clear HW HRm HOp HPc HPa
        go_wp2_with (first | (go_at_call 75; refine (rwhite_any _ _).mono ?_; rintro e w' ⟨rfl, rfl⟩))
        go_roundw
        case rel => exact ⟨k + 1, done, by go_num, ⟨by omega, by rw [HR.eq, HWE.out], by omega, HR.own, HR.below⟩⟩
        case measure => simp [intOf]; omega
    · go_wp2
      go_ret
      have h := HR.eq
      rw [List.drop_of_length_le (i := k) (by rw [size_toList]; omega), lx_nil, List.append_nil] at h
      rw [h]
      exact ⟨_, rfl, HR.own, HR.below⟩
end Go.Proofs.Ytafpbdmggnfdnaa

/- The contracts of the reference's Word, Is and Kind, and those of lex.Is with the memory that they leave written out. -/
namespace Go.Proofs.Ytafpbdmggnfdnaa
open Go.RowKit
set_option linter.unusedVariables false

theorem kindR_one (u : Bs) (t : Tk) (h : lx u 0 = [t]) : kindR u = if t.2.1 = 0 ∧ t.2.2 = u.length ∧ t.1 ≠ 7 then t.1 else 0 := by unfold kindR; rw [h]
theorem kindR_other (u : Bs) (h : (lx u 0).length ≠ 1) : kindR u = 0 := by
  unfold kindR
  split
  · rename_i t ht; rw [ht] at h; simp at h
  · rfl
set_option maxHeartbeats 2000000 in
theorem rkind_any (u : ByteArray) (w : World) (hu : u.size ≤ 1000000) :
    Calls Try.prog 57 #[.string u] w fun e w' => e = .returned (.int .i64 (kindL u.toList)) ∧ Below w.heap.size w w' := by
  rw [← kind_same]
  have hn := lx_length u.toList 0
  rw [size_toList] at hn
  by_cases h1 : (lx u.toList 0).length = 1
  · obtain ⟨t, ht⟩ := List.length_eq_one_iff.1 h1
    have HK := hide (kindR_one u.toList t ht)
    have HL := hide (rlex_any u w hu)
    rw [ht] at HL
    rw [size_toList] at HK
    generalize kindR u.toList = K at *
    obtain ⟨x1, x2, x3⟩ := t
    simp only at HK
    clear h1 ht hn
    rcases (show (x2 != 0) = true ∨ (x2 = 0 ∧ (x3 != (u.size : Int)) = true) ∨ (x2 = 0 ∧ x3 = u.size ∧ x1 = 7) ∨ (x2 = 0 ∧ x3 = u.size ∧ (x1 == 7) = false) by
      simp only [bne_iff_ne, beq_eq_false_iff_ne]; omega) with g | ⟨rfl, g⟩ | ⟨rfl, rfl, rfl⟩ | ⟨rfl, rfl, g⟩
    all_goals
      go_enter Try.func57, Try.ntmps57
      go_wp2_with fail
      refine HL.out.mono ?_
      rintro e w2 ⟨v2, rfl, hown2, hb2⟩
      obtain ⟨A, c, rfl, ha⟩ := Toks.of_own hown2
      obtain ⟨b, o, rfl, _, a1, a2, a3⟩ := ha.at_ 0 (by simp)
      simp only [List.getElem_cons_zero, Nat.zero_mul, Nat.add_zero] at a1 a2 a3
      have hb3 := hide hb2; clear hb2 hown2 ha
      go_wp2
      go_ret
      refine ⟨ret_int ?_, hb3.out⟩
      rw [HK.out]
      clear HK HL hb3
      split <;> first | rfl | (simp_all; done)
  · have HK := hide (kindR_other u.toList h1)
    generalize kindR u.toList = K at *
    have hne : (((lx u.toList 0).length : Int) != 1) = true := by simp only [bne_iff_ne]; omega
    generalize hxs : lx u.toList 0 = xs at *
    have HL := hide (rlex_any u w hu)
    rw [hxs] at HL
    clear hxs h1
    go_enter Try.func57, Try.ntmps57
    go_wp2_with fail
    refine HL.out.mono ?_
    rintro e w2 ⟨v2, rfl, hown2, hb2⟩
    obtain ⟨A, c, rfl, ha⟩ := Toks.of_own hown2
    have hb3 := hide hb2; clear hb2 hown2 ha
    go_wp2
    go_ret
    exact ⟨ret_int HK.out.symm, hb3.out⟩
end Go.Proofs.Ytafpbdmggnfdnaa

/- The reference's store: add, Var, Make. -/
namespace Go.Proofs.Ytafpbdmggnfdnaa
open Go.RowKit
set_option linter.unusedVariables false

theorem rnInfo : (Try.prog.info? 91).map (fun i => (i.zero, i.size, i.bytes)) = some (some (.agg #[.int .i64 0, .string ByteArray.empty, .slice none 0 0, .int .i64 0]), 4, 56) := by kernel_rfl
/-- A node more. -/
def RAdded (w : World) (v : Value) (ad : List (Option Addr × Nat)) (R : RS) (p : Nd) (v' : Value) (w' : World) : Prop :=
  ∃ ad', RSt w' v' ad' (R.add p) ∧ Only (fun b => v.ownBlock = some b) w w' ∧ (∀ b, v'.ownBlock = some b → v.ownBlock = some b ∨ w.heap.size ≤ b) ∧ ∀ (i : Nat) (a : Option Addr × Nat), ad'[i]? = some a → ad[i]? = some a ∨ ∀ x, a.1 = some x → w.heap.size ≤ x.block
def RAddPost (w : World) (v : Value) (ad : List (Option Addr × Nat)) (R : RS) (p : Nd) (e : Ending) (w' : World) : Prop :=
  ∃ v', e = .returned (.tuple #[.agg #[v'], .int .i64 (R.nodes.length : Int)]) ∧ RAdded w v ad R p v' w'
theorem RAdded.shift {w W0 w1 w2 : World} {v v' : Value} {ad : List (Option Addr × Nat)} {R : RS} {p : Nd} {F : Nat → Prop} (h : RAdded W0 v ad R p v' w1) (h0 : RSt w v ad R) (hb : Below w.heap.size w W0) (ho : Only F w1 w2) (hF : ∀ b, F b → w.heap.size ≤ b ∧ (b < W0.heap.size ∨ w1.heap.size ≤ b)) : RAdded w v ad R p v' w2 := by
  obtain ⟨ad', k1, k2, k3, k4⟩ := h
  have hz := hb.size
  have hz1 := k2.size
  refine ⟨ad', k1.only ho (fun b hb' hf => ?_) (fun i a ha x hx hf => ?_), ?_, fun b hb' => (k3 b hb').imp id fun h => by omega, fun i a ha => (k4 i a ha).imp id fun h x hx => by have := h x hx; omega⟩
  · have h1 := hF b hf
    have h2 := k1.lt b hb'
    rcases k3 b hb' with h | h
    · have := h0.lt b h; omega
    · omega
  · have h1 := hF _ hf
    have h2 := k1.adlt i a ha x hx
    rcases k4 i a ha with h | h
    · have := h0.adlt i a h x hx; omega
    · have := h x hx; omega
  · exact ((Only.of_below hb _).trans k2).then_ ho (fun b hf hl => by have := hF b hf; omega)
theorem radd_post {w W : World} {v v' : Value} {ad : List (Option Addr × Nat)} {R : RS} (h : RSt w v ad R) (p : Nd) (A : Option Addr) (c : Nat) (hA : Nats W A p.args) (hAb : ∀ x, A = some x → w.heap.size ≤ x.block ∧ x.block < W.heap.size ∧ v'.ownBlock ≠ some x.block) (hm : R.nodes.length + 1 ≤ 1000000) (hpa : p.args.length ≤ 1000000)
    (hown : W.ownsRow 0 91 4 v' (R.nodes.length + 1) (rnCells R.nodes ad (links R.up) ++ rnCell p (A, c) (-1))) (ho : Only (fun b => v.ownBlock = some b) w W) (hb : ∀ b, v'.ownBlock = some b → v.ownBlock = some b ∨ w.heap.size ≤ b) :
    RAddPost w v ad R p (.returned (.tuple #[.agg #[v'], .int .i64 (R.nodes.length : Int)])) W := by
  have hlen : (R.add p).nodes.length = R.nodes.length + 1 := by simp [RS.add]
  have hup : links (R.add p).up = links R.up ++ [-1] := by simp only [RS.add]; rw [← h.lup]; exact links_snoc R.up
  refine ⟨v', rfl, ad ++ [(A, c)], ⟨?_, by simp [RS.add, h.lad], by simp [RS.add, h.lup], fun i q a hi ha => ?_, by rw [hlen]; exact hm, fun i q hi => ?_⟩, ho, hb, fun i a ha => ?_⟩
  · rw [hlen, hup]
    simp only [RS.add]
    rw [rnCells_snoc _ _ _ _ _ _ h.lad (by rw [links_length, h.lup])]
    exact hown
  · rcases snoc_at hi with ⟨hi0, hi1⟩ | ⟨rfl, rfl⟩
    · rw [List.getElem?_append_left (by rw [h.lad]; exact hi0)] at ha
      obtain ⟨g1, g2⟩ := h.args i q a hi1 ha
      refine ⟨Ints.only g1 ho fun x e => (g2 x e).2, fun x e => ⟨Nat.lt_of_lt_of_le (g2 x e).1 ho.size, fun hf => ?_⟩⟩
      rcases hb _ hf with e' | e'
      · exact (g2 x e).2 e'
      · have := (g2 x e).1; omega
    · rw [← h.lad] at ha
      simp at ha
      subst ha
      exact ⟨hA, fun x e => ⟨(hAb x e).2.1, (hAb x e).2.2⟩⟩
  · rcases snoc_at hi with ⟨hi0, hi1⟩ | ⟨rfl, rfl⟩
    · exact h.few i q hi1
    · exact hpa
  · by_cases hil : i < ad.length
    · rw [List.getElem?_append_left hil] at ha; exact .inl ha
    · rw [List.getElem?_append_right (by omega)] at ha
      have hi2 : i = ad.length := by
        have := (List.getElem?_eq_some_iff.1 ha).1
        simp at this; omega
      subst hi2
      simp at ha
      subst ha; exact .inr fun x hx => (hAb x hx).1
theorem blk_set {W : World} {g : Nat} {cs : Array Value} {t : TypeId} (h : W.heap[g]? = some (.cells cs t (0, 0))) (k : Nat) (u : Value) : (W.setCell ⟨g, k, none⟩ u).heap[g]? = some (.cells (cs.setIfInBounds k u) t (0, 0)) := by
  simp [World.setCell, Array.getElem?_modify, h]
theorem one_cell {W : World} {g : Nat} {u0 : Value} {t : TypeId} (h : W.heap[g]? = some (.cells #[u0] t (0, 0))) : W.cell? ⟨g, 0, none⟩ = some u0 ∧ W.frozen? ⟨g, 0, none⟩ = false := by
  refine ⟨?_, by simp [World.frozen?, h]⟩
  rw [cell_of_row _ _ _ _ _ _ h]; rfl
set_option maxRecDepth 100000 in
set_option maxHeartbeats 4000000 in
theorem radd_any {w : World} {v : Value} {ad : List (Option Addr × Nat)} {R : RS} (h : RSt w v ad R) (p : Nd) (l : Int) (A : Option Addr) (c : Nat) (hA : Nats w A p.args) (hm : R.nodes.length + 1 ≤ 1000000) (hpa : p.args.length ≤ 1000000) :
    Calls Try.prog 56 #[.agg #[v], .agg #[.int .i64 p.kind, .string p.name, .slice A p.args.length c, .int .i64 l]] w (RAddPost w v ad R p) := by
  obtain ⟨i0, hi, hz0, hz1, hz2⟩ := info_parts rnInfo
  have Hi := hide hi; have Hz0 := hide hz0; have Hz1 := hide hz1; have Hz2 := hide hz2
  clear hi hz0 hz1 hz2
  obtain ⟨A0, cap0, hv0, _, _⟩ := own_len h.own
  subst hv0
  have Hh := hide h
  have HA := hide hA
  have hlc : (cast p.args).length = p.args.length := by simp [cast]
  have Hlc := hide hlc
  have HC := hide (fun W (hW : Ints W A (cast p.args)) => copyInts_any A c (cast p.args) W hW (by rw [hlc]; exact hpa))
  rw [hlc] at HC
  clear hA h hlc
  go_enter Try.func56, Try.ntmps56
  go_wp2_with fail
  obtain ⟨W0, hW0⟩ : ∃ W0, (((w.alloc (.cells #[.slice A0 R.nodes.length cap0] 29)).alloc (.cells #[.int .i64 p.kind, .string p.name, .slice A p.args.length c, .int .i64 (-1)] 91)).alloc (.cells #[.slice none 0 0] 29)) = W0 := ⟨_, rfl⟩
  have hb0 : Below w.heap.size w W0 := by rw [← hW0]; exact (((Below.refl _ _).alloc (Nat.le_refl _) _).alloc (by simp) _).alloc (by simp; omega) _
  have hz0 : W0.heap.size = w.heap.size + 3 := by rw [← hW0]; simp
  have e0 : W0.heap[w.heap.size]? = some (.cells #[.slice A0 R.nodes.length cap0] 29 (0, 0)) := by rw [← hW0, Below.heap_alloc _ _ _ (by simp; omega), Below.heap_alloc _ _ _ (by simp)]; exact heap_alloc_new w _
  have e1 : W0.heap[w.heap.size + 1]? = some (.cells #[.int .i64 p.kind, .string p.name, .slice A p.args.length c, .int .i64 (-1)] 91 (0, 0)) := by
    rw [← hW0, Below.heap_alloc _ _ _ (by simp)]
    have := heap_alloc_new (w.alloc (.cells #[.slice A0 R.nodes.length cap0] 29)) (.cells #[.int .i64 p.kind, .string p.name, .slice A p.args.length c, .int .i64 (-1)] 91)
    rwa [World.size_alloc] at this
  have e2 : W0.heap[w.heap.size + 1 + 1]? = some (.cells #[.slice none 0 0] 29 (0, 0)) := by
    have := heap_alloc_new ((w.alloc (.cells #[.slice A0 R.nodes.length cap0] 29)).alloc (.cells #[.int .i64 p.kind, .string p.name, .slice A p.args.length c, .int .i64 (-1)] 91)) (.cells #[.slice none 0 0] 29)
    rw [← hW0]
    simpa only [World.size_alloc] using this
  rw [hW0]
  clear hW0
  refine (HC.out W0 (Ints.below HA.out hb0)).mono ?_
  rintro e w1 ⟨A1, c1, rfl, hI, hB, hb1⟩
  rw [Hlc.out]
  have f0 := (hb1.block _ (by omega)).trans e0
  have f1 := (hb1.block _ (by omega)).trans e1
  have f2 := (hb1.block _ (by omega)).trans e2
  have Hb1 := hide (hb0.trans (hb1.mono hb0.size))
  have hz1 : w.heap.size + 3 ≤ w1.heap.size := by have := hb1.size; omega
  have HI := hide hI; have HB := hide hB
  clear e0 e1 e2 hb1 hI hB HC HA
  obtain ⟨x0, x1, x2, x3, xf⟩ := four_cells f1
  have y2 := xf 2
  go_upto_region 3 with fail
  obtain ⟨W2, hW2⟩ : ∃ W2, w1.setCell ⟨w.heap.size + 1, 2, none⟩ (.slice A1 p.args.length c1) = W2 := ⟨_, rfl⟩
  have g0 : W2.heap[w.heap.size]? = some (.cells #[.slice A0 R.nodes.length cap0] 29 (0, 0)) := by rw [← hW2, Below.heap_setCell _ _ _ _ (by simp)]; exact f0
  have g1 : W2.heap[w.heap.size + 1]? = some (.cells #[.int .i64 p.kind, .string p.name, .slice A1 p.args.length c1, .int .i64 (-1)] 91 (0, 0)) := by rw [← hW2]; exact blk_set f1 2 _
  have g2 : W2.heap[w.heap.size + 1 + 1]? = some (.cells #[.slice none 0 0] 29 (0, 0)) := by rw [← hW2, Below.heap_setCell _ _ _ _ (by simp)]; exact f2
  have Hb2 : Hid (Below w.heap.size w W2) := hide (by rw [← hW2]; exact Hb1.out.setCell (by simp) _)
  have hz2 : w.heap.size + 3 ≤ W2.heap.size := by rw [← hW2]; simpa [World.setCell] using hz1
  have HI2 : Hid (Ints W2 A1 (cast p.args)) := hide (by
    refine HI.out.keep (by rw [← hW2]; simp [World.setCell]) (fun a q ha hq hl => ?_)
    rw [← hW2]
    exact World.cell?_of_block (Below.heap_setCell _ _ _ _ (by have := (HB.out a ha).1; simp; omega)))
  have HB2 : Hid (∀ x, A1 = some x → w.heap.size + 3 ≤ x.block ∧ x.block < W2.heap.size) := hide (fun x hx => by have := HB.out x hx; rw [← hW2]; simp [World.setCell]; omega)
  simp only [hW2]
  clear hW2 x0 x1 x2 x3 xf y2 f0 f1 f2 Hb1 HI HB hz1 w1
  obtain ⟨s0, t0⟩ := one_cell g0
  obtain ⟨x0, x1, x2, x3, xf⟩ := four_cells g1
  have HO := hide ((own_keep Hh.out.own (fun b hb => Hb2.out.block b (Hh.out.lt b hb))).alloc (.cells #[.int .i64 p.kind, .string p.name, .slice A1 p.args.length c1, .int .i64 (-1)] 91))
  have HN := hide (four_new W2 (.int .i64 p.kind) (.string p.name) (.slice A1 p.args.length c1) (.int .i64 (-1)) 91)
  have H1 : Hid (∀ u ∈ rnCell p (A1, c1) (-1), u.oneCell' = true) := hide (by simp [rnCell, Value.oneCell'])
  have Hg0 := hide g0; have Hg2 := hide g2
  clear g0 g1 g2 xf
  go_upto_region 4 with (at_builtin; refine wpList_append_own_at _ rfl (.tmp 12) (.tmp 14) 27 rfl 0 91 i0 (.agg #[.int .i64 0, .string ByteArray.empty, .slice none 0 0, .int .i64 0]) 4 56 Try.underlying27 Hi.out Hz0.out Hz1.out Hz2.out rfl (by decide) (.slice A0 R.nodes.length cap0) R.nodes.length (rnCells R.nodes ad (links R.up)) rfl HO.out ⟨W2.heap.size, 0, none⟩ 1 1 (rnCell p (A1, c1) (-1)) rfl rfl HN.out H1.out (by simp only [maxLen]; omega) (by omega) (Nat.zero_le _) ?_; intro v3 W3 own3 grow3 nil3 at3; clear nil3; obtain ⟨A3, cap3, hv3, -, -⟩ := own_len own3; subst hv3; have hnb : ∀ b, w.heap.size ≤ b → (Value.slice A0 R.nodes.length cap0).ownBlock ≠ some b := (fun b hb e => by have := Hh.out.lt b e; omega); have q0 := (grow3.block w.heap.size (by simp; omega) (fun e => hnb _ (Nat.le_refl _) e.symm)).trans ((Below.heap_alloc _ _ _ (by omega)).trans Hg0.out); have q2 := (grow3.block (w.heap.size + 1 + 1) (by simp; omega) (fun e => hnb _ (by omega) e.symm)).trans ((Below.heap_alloc _ _ _ (by omega)).trans Hg2.out); obtain ⟨s1, t1⟩ := one_cell q0; obtain ⟨s2, t2⟩ := one_cell q2; have Q0 := hide q0; have Q2 := hide q2; have O3 := hide own3; have G3 := hide grow3; have T3 := hide at3; clear q0 q2 own3 grow3 at3 hnb)
  obtain ⟨W4, hW4⟩ : ∃ W4, W3.setCell ⟨w.heap.size, 0, none⟩ (.slice A3 (R.nodes.length + 1) cap3) = W4 := ⟨_, rfl⟩
  have q0 : W4.heap[w.heap.size]? = some (.cells #[.slice A3 (R.nodes.length + 1) cap3] 29 (0, 0)) := by rw [← hW4]; exact blk_set Q0.out 0 _
  have q2 : W4.heap[w.heap.size + 1 + 1]? = some (.cells #[.slice none 0 0] 29 (0, 0)) := by rw [← hW4, Below.heap_setCell _ _ _ _ (by simp; omega)]; exact Q2.out
  have HW4 := hide hW4
  simp only [hW4]
  clear hW4 s0 t0 x0 x1 x2 x3 s1 t1 s2 t2
  obtain ⟨s0, t0⟩ := one_cell q0
  obtain ⟨s2, t2⟩ := one_cell q2
  have Hq2 := hide q2
  clear q0 q2 hz0
  go_region
  all_goals
    go_wp2
    have hz5 := blk_set Hq2.out 0 (.slice A3 (R.nodes.length + 1) cap3)
    obtain ⟨W5, hW5⟩ : ∃ W5, (W4.setCell ⟨w.heap.size + 1 + 1, 0, none⟩ (.slice A3 (R.nodes.length + 1) cap3)).drew = W5 := ⟨_, rfl⟩
    have k0 : W5.heap[w.heap.size + 1 + 1]? = some (.cells #[.slice A3 (R.nodes.length + 1) cap3] 29 (0, 0)) := by rw [← hW5]; exact hz5
    have hsame : ∀ k, k ≠ w.heap.size → k ≠ w.heap.size + 1 + 1 → W5.heap[k]? = W3.heap[k]? := by
      intro k h1 h2
      rw [← hW5, ← HW4.out]
      exact (Below.heap_setCell _ _ _ k h2).trans (Below.heap_setCell _ _ _ k h1)
    have hown : ∀ b, (Value.slice A3 (R.nodes.length + 1) cap3).ownBlock = some b → (Value.slice A0 R.nodes.length cap0).ownBlock = some b ∨ w.heap.size + 3 ≤ b := by
      intro b hb
      rcases T3.out with e | e
      · exact .inl (e.symm.trans hb)
      · rw [e, World.size_alloc] at hb; injection hb with hb; exact .inr (by omega)
    have hold : ∀ b, (Value.slice A0 R.nodes.length cap0).ownBlock = some b → b < w.heap.size := Hh.out.lt
    have hno : ∀ b, (Value.slice A3 (R.nodes.length + 1) cap3).ownBlock = some b → b ≠ w.heap.size ∧ b ≠ w.heap.size + 1 + 1 := by
      intro b hb
      rcases hown b hb with e | e
      · have := hold b e; omega
      · omega
    have hon : Only (fun b => (Value.slice A0 R.nodes.length cap0).ownBlock = some b) w W5 := by
      rw [← hW5, ← HW4.out]
      exact (((((Only.of_below Hb2.out _).alloc _).grown G3.out (fun b hb => .inl hb)).setCell (.inr (Nat.le_refl _)) _).setCell (.inr (by simp; omega)) _).drew
    have hz3 := G3.out.size
    rw [World.size_alloc] at hz3
    have hz5' : W5.heap.size = W3.heap.size := by rw [← hW5, ← HW4.out]; simp [World.setCell, World.drew]
    have hpost := radd_post Hh.out p A1 c1 (W := W5) (v' := .slice A3 (R.nodes.length + 1) cap3) (by
        refine HI2.out.keep (by omega) (fun a q ha hq hl => ?_)
        have h1 := (HB2.out a ha)
        refine World.cell?_of_block ?_
        rw [hsame _ (by omega) (by omega), G3.out.block _ (by rw [World.size_alloc]; omega) (fun e => by have := hold _ e.symm; omega), Below.heap_alloc _ _ _ (by omega)])
      (fun x hx => ⟨by have := (HB2.out x hx).1; omega, by have := (HB2.out x hx).2; omega, fun e => by
        have h1 := HB2.out x hx
        rcases T3.out with e2 | e2
        · have := hold _ (e2.symm.trans e); omega
        · rw [e2, World.size_alloc] at e; injection e with e; omega⟩) hm hpa
      (own_keep O3.out (fun b hb => hsame b (hno b hb).1 (hno b hb).2)) hon (fun b hb => (hown b hb).imp id (fun h => by omega))
    obtain ⟨c0, -⟩ := one_cell k0
    simp only [hW5]
    clear hW5 hsame hon s0 t0 s2 t2 hz5
    exact bodyPost_ret (v := .tuple #[.agg #[.slice A3 (R.nodes.length + 1) cap3], .int .i64 (R.nodes.length : Int)]) (by simp [results, Try.results56, go_sem, c0]) rfl hpost

/-- Of one cell, or of two: a new box each. -/
theorem box_two (w : World) (u0 u1 : Value) (t0 t1 : TypeId) : ((w.alloc (.cells #[u0] t0)).alloc (.cells #[u1] t1)).heap[w.heap.size]? = some (.cells #[u0] t0 (0, 0)) ∧ ((w.alloc (.cells #[u0] t0)).alloc (.cells #[u1] t1)).heap[w.heap.size + 1]? = some (.cells #[u1] t1 (0, 0)) ∧ Below w.heap.size w ((w.alloc (.cells #[u0] t0)).alloc (.cells #[u1] t1)) ∧ ((w.alloc (.cells #[u0] t0)).alloc (.cells #[u1] t1)).heap.size = w.heap.size + 2 := by
  refine ⟨by rw [Below.heap_alloc _ _ _ (by simp)]; exact heap_alloc_new w _, ?_, ((Below.refl _ _).alloc (Nat.le_refl _) _).alloc (by simp) _, by simp⟩
  have := heap_alloc_new (w.alloc (.cells #[u0] t0)) (.cells #[u1] t1)
  rwa [World.size_alloc] at this
set_option maxHeartbeats 1000000 in
theorem rvar_any {w : World} {v : Value} {ad : List (Option Addr × Nat)} {R : RS} (h : RSt w v ad R) (hm : R.nodes.length + 1 ≤ 1000000) :
    Calls Try.prog 34 #[.agg #[v]] w (RAddPost w v ad R varNd) := by
  obtain ⟨b0, b1, bb, bz⟩ := box_two w v (.slice none 0 0) 29 29
  obtain ⟨A0, cap0, hv0, _, _⟩ := own_len h.own
  have Hh := hide h
  have HA := hide (radd_any (h.later bb) varNd 0 none 0 (fun h => absurd rfl h) hm (by decide))
  obtain ⟨W0, hW0⟩ : ∃ W0, (w.alloc (.cells #[v] 29)).alloc (.cells #[.slice none 0 0] 29) = W0 := ⟨_, rfl⟩
  rw [hW0] at b0 b1 bb bz HA
  subst hv0
  have HW := hide hW0; have Hb0 := hide b0; have Hb1 := hide b1; have Hbb := hide bb; have Hbz := hide bz
  clear hW0 b0 b1 bb bz h
  go_enter Try.func34, Try.ntmps34
  go_wp2_with fail
  rw [HW.out]
  refine HA.out.mono ?_
  rintro e w1 ⟨v', rfl, hp⟩
  have hbz := Hbz.out
  have q1 : w1.heap[w.heap.size + 1]? = some (.cells #[.slice none 0 0] 29 (0, 0)) := by
    obtain ⟨ad', k1, k2, k3, k4⟩ := hp
    exact (k2.block _ (by omega) (fun hf => by have := Hh.out.lt _ hf; omega)).trans Hb1.out
  obtain ⟨c0, t0⟩ := one_cell q1
  have HP := hide hp; have Hq1 := hide q1
  obtain ⟨A', cap', hv', -, -⟩ : ∃ A' cap', v' = .slice A' (R.nodes.length + 1) cap' ∧ True ∧ True := by
    obtain ⟨ad', k1, -⟩ := hp
    obtain ⟨A', cap', e, -, -⟩ := own_len k1.own
    exact ⟨A', cap', by rw [e]; simp [RS.add], trivial, trivial⟩
  subst hv'
  clear hp q1
  go_wp2
  have hz5 := blk_set Hq1.out 0 (.slice A' (R.nodes.length + 1) cap')
  obtain ⟨W5, hW5⟩ : ∃ W5, w1.setCell ⟨w.heap.size + 1, 0, none⟩ (.slice A' (R.nodes.length + 1) cap') = W5 := ⟨_, rfl⟩
  have hpost : RAddPost w (.slice A0 R.nodes.length cap0) ad R varNd (.returned (.tuple #[.agg #[.slice A' (R.nodes.length + 1) cap'], .int .i64 (R.nodes.length : Int)])) W5 := by
    refine ⟨_, rfl, HP.out.shift (F := fun b => b = w.heap.size + 1) Hh.out Hbb.out ?_ (fun b hb => by omega)⟩
    rw [← hW5]; exact (Only.refl (fun b => b = w.heap.size + 1) w1).setCell (p := ⟨w.heap.size + 1, 0, none⟩) (.inl rfl) _
  rw [hW5] at hz5
  obtain ⟨k0, -⟩ := one_cell hz5
  simp only [hW5]
  clear hW5 c0 t0 hz5
  exact bodyPost_ret (v := .tuple #[.agg #[.slice A' (R.nodes.length + 1) cap'], .int .i64 (R.nodes.length : Int)]) (by simp [results, Try.results34, go_sem, k0]) rfl hpost

/-- What Make answers. -/
def RMakeAny (w : World) (v : Value) (ad : List (Option Addr × Nat)) (R : RS) (kind : Int) (name : ByteArray) (xs : List Int) (e : Ending) (w' : World) : Prop :=
  ∃ v', e = .returned (.tuple #[.agg #[v'], .int .i64 (makeV R.nodes kind name xs), .int .i64 (makeErr R.nodes.length kind name xs)]) ∧
    ((makeErr R.nodes.length kind name xs = 0 ∧ RAdded w v ad R ⟨kind, name, xs.map Int.toNat⟩ v' w') ∨ (makeErr R.nodes.length kind name xs ≠ 0 ∧ v' = v ∧ Below w.heap.size w w'))
theorem rmake_no {w w' : World} {v : Value} {ad : List (Option Addr × Nat)} {R : RS} {kind : Int} {name : ByteArray} {xs : List Int} {err : Int} (he : makeErr R.nodes.length kind name xs = err) (h0 : err ≠ 0) (hb : Below w.heap.size w w') : RMakeAny w v ad R kind name xs (.returned (.tuple #[.agg #[v], .int .i64 0, .int .i64 err])) w' := by
  refine ⟨v, ?_, .inr ⟨by rw [he]; exact h0, rfl, hb⟩⟩
  unfold makeV
  rw [he, if_neg h0]
theorem allIn_snoc (n : Nat) (xs : List Int) (k : Nat) (hk : k < xs.length) (h : allIn n (xs.take k) = true) (hx : inB n xs[k] = true) : allIn n (xs.take (k + 1)) = true := by
  rw [List.take_succ_eq_append_getElem hk]
  unfold allIn at h ⊢
  rw [List.all_append, h]
  unfold inB at hx
  simp at hx ⊢; exact hx
theorem allIn_not (n : Nat) (xs : List Int) (k : Nat) (hk : k < xs.length) (hx : inB n xs[k] = false) : allIn n xs = false := by
  unfold allIn
  rw [List.all_eq_false]
  refine ⟨xs[k], List.getElem_mem hk, ?_⟩
  unfold inB at hx
  simp at hx ⊢; exact hx
set_option maxRecDepth 100000 in
set_option maxHeartbeats 4000000 in
theorem rmake_any {w : World} {v : Value} {ad : List (Option Addr × Nat)} {R : RS} (h : RSt w v ad R) (kind : Int) (hkind : kind = 2 ∨ kind = 3 ∨ kind = 4) (name : ByteArray) (hs : name.size ≤ 1000000) (A : Option Addr) (c : Nat) (xs : List Int) (hA : Ints w A xs) (hl : xs.length ≤ 1000000) (hm : R.nodes.length + 1 ≤ 1000000) :
    Calls Try.prog 35 #[.agg #[v], .int .i64 kind, .string name, .slice A xs.length c] w (RMakeAny w v ad R kind name xs) := by
  obtain ⟨b0, b1, bb, bz⟩ := box_two w v (.slice none 0 0) 29 29
  obtain ⟨A0, cap0, hv0, _, _⟩ := own_len h.own
  have Hh := hide h; have HA := hide hA; have Hkind := hide hkind
  obtain ⟨W0, hW0⟩ : ∃ W0, (w.alloc (.cells #[v] 29)).alloc (.cells #[.slice none 0 0] 29) = W0 := ⟨_, rfl⟩
  rw [hW0] at b0 b1 bb bz
  subst hv0
  have HW := hide hW0; have Hb0 := hide b0; have Hb1 := hide b1; have Hbb := hide bb; have Hbz := hide bz
  clear hW0 b0 b1 bb bz h hA hkind
  go_enter Try.func35, Try.ntmps35
  go_wp2
  simp only [HW.out]
  go_loopw [11] (fun vi wr => ∃ k : Nat, vi = .int .i64 k ∧ k ≤ xs.length ∧ Hid (allIn R.nodes.length (xs.take k) = true) ∧ Hid (Below W0.heap.size W0 wr)) (fun vi _ => xs.length - (intOf vi).toNat)
  case atStart => exact ⟨0, rfl, by omega, hide (by simp [allIn]), hide (Below.refl _ _)⟩
  case round =>
    obtain ⟨k, rfl, hk, HAll, HB⟩ := hrel
    have hbz := Hbz.out
    have hwr : w.heap.size + 2 ≤ wr.heap.size := by have := HB.out.size; omega
    have q0 := (HB.out.block _ (by omega)).trans Hb0.out
    have q1 := (HB.out.block _ (by omega)).trans Hb1.out
    have Hbw := hide (Hbb.out.trans (HB.out.mono (by omega)))
    have Hst := hide (Hh.out.later Hbw.out)
    obtain ⟨s0, t0⟩ := one_cell q0
    obtain ⟨s1, t1⟩ := one_cell q1
    have Hq0 := hide q0; have Hq1 := hide q1
    clear hbz q0 q1
    by_cases hlt : k < xs.length
    · obtain ⟨b, off, rfl, hb, d0⟩ := HA.out.at_ k hlt
      obtain ⟨x, hx⟩ : ∃ x, xs[k] = x := ⟨_, rfl⟩
      have d1 := (Hbw.out.cell (p := ⟨b, off + k, none⟩) hb).trans d0
      rw [hx] at d1
      have Hx := hide hx
      have HIs := hide (fun W (hW : RSt W (.slice A0 R.nodes.length cap0) ad R) => ris_any hW x)
      clear d0 hx
      have hbl : b < wr.heap.size := by omega
      have hwl : w.heap.size < wr.heap.size := by omega
      have hwr0 : w.heap.size ≤ wr.heap.size := by omega
      have hwr1 : W0.heap.size ≤ wr.heap.size := HB.out.size
      cases hin : inB R.nodes.length x
      · rw [hin] at HIs
        have Herr : Hid (makeErr R.nodes.length kind name xs = 221) := hide (by unfold makeErr; rw [if_pos (allIn_not _ _ k hlt (by rw [Hx.out]; exact hin))])
        clear hin
        go_wp2
        go_region_held3 (fun w' => w'.cell? ⟨w.heap.size, 0, none⟩ = some (.slice A0 R.nodes.length cap0) ∧ w'.cell? ⟨b, off + k, none⟩ = some (.int .i64 x)) (go_keep)
          (first | (go_at_call 39; refine (HIs.out _ (Hst.out.later (by first | exact Below.refl _ _ | exact (Below.refl _ _).drew))).mono ?_; rintro e w' ⟨rfl, hb'⟩; have r0 := (hb'.cell (p := ⟨w.heap.size, 0, none⟩) hwl).trans s0; have r1 := (hb'.cell (p := ⟨b, off + k, none⟩) hbl).trans d1))
        have q1 := (hb'.block (w.heap.size + 1) (show w.heap.size + 1 < wr.heap.size by omega)).trans Hq1.out
        have Hbw' := hide (Hbw.out.trans ((Below.refl _ _).drew.trans (hb'.mono hwr0)))
        obtain ⟨s1', t1'⟩ := one_cell q1
        have Hq1' := hide q1
        clear s0 t0 s1 t1 d1 q1 hb' r1 hbl
        go_wp2
        have hz5 := blk_set Hq1'.out 0 (.slice A0 R.nodes.length cap0)
        obtain ⟨W5, hW5⟩ : ∃ W5, w'.setCell ⟨w.heap.size + 1, 0, none⟩ (.slice A0 R.nodes.length cap0) = W5 := ⟨_, rfl⟩
        have hpost : RMakeAny w (.slice A0 R.nodes.length cap0) ad R kind name xs (.returned (.tuple #[.agg #[.slice A0 R.nodes.length cap0], .int .i64 0, .int .i64 221])) W5 := by
          refine rmake_no Herr.out (by decide) ?_
          rw [← hW5]; exact Hbw'.out.setCell (p := ⟨w.heap.size + 1, 0, none⟩) (by simp) _
        rw [hW5] at hz5
        obtain ⟨k0, -⟩ := one_cell hz5
        simp only [hW5]
        clear hW5 hz5
        exact bodyPost_ret (v := .tuple #[.agg #[.slice A0 R.nodes.length cap0], .int .i64 0, .int .i64 221]) (by simp [results, Try.results35, go_sem, k0]) rfl hpost
      · rw [hin] at HIs
        have Hin := hide hin
        clear hin
        go_wp2
        go_region_held3 (fun w' => w'.cell? ⟨w.heap.size, 0, none⟩ = some (.slice A0 R.nodes.length cap0) ∧ w'.cell? ⟨b, off + k, none⟩ = some (.int .i64 x)) (go_keep)
          (first | (go_at_call 39; refine (HIs.out _ (Hst.out.later (by first | exact Below.refl _ _ | exact (Below.refl _ _).drew))).mono ?_; rintro e w' ⟨rfl, hb'⟩; have r0 := (hb'.cell (p := ⟨w.heap.size, 0, none⟩) hwl).trans s0; have r1 := (hb'.cell (p := ⟨b, off + k, none⟩) hbl).trans d1))
        have Hb' := hide (HB.out.trans ((Below.refl _ _).drew.trans (hb'.mono hwr1)))
        clear s0 t0 s1 t1 d1 hb' r0 r1 hbl
        go_wp2
        go_roundw
        case measure => simp [intOf]; omega
        case rel => exact ⟨k + 1, by go_num, by omega, hide (allIn_snoc _ _ k hlt HAll.out (by rw [Hx.out]; exact Hin.out)), Hb'⟩
    · obtain rfl : k = xs.length := by omega
      have Hall : Hid (allIn R.nodes.length xs = true) := hide (by have := HAll.out; rwa [List.take_of_length_le (Nat.le_refl _)] at this)
      have Hcast := hide (cast_toNat Hall.out).1
      have Hlen : Hid ((xs.map Int.toNat).length = xs.length) := hide (by simp)
      rcases Hkind.out with rfl | rfl | rfl
      · have HKd := hide (rkind_any name wr hs)
        by_cases hq : kindL name.toList = 1
        · rw [hq] at HKd
          have Herr : Hid (makeErr R.nodes.length 2 name xs = 0) := hide (by unfold makeErr; rw [if_neg (by simp [Hall.out]), if_neg (by simp [hq])])
          clear hq
          go_wp2_with fail
          refine HKd.out.mono ?_
          rintro e w' ⟨rfl, hb'⟩
          have Hbw' := hide (Hbw.out.trans (hb'.mono (by omega)))
          have q0 := (hb'.block (w.heap.size) (by omega)).trans Hq0.out
          have q1 := (hb'.block (w.heap.size + 1) (by omega)).trans Hq1.out
          obtain ⟨s0', t0'⟩ := one_cell q0
          have Hq0' := hide q0; have Hq1' := hide q1
          clear s0 t0 s1 t1 q0 q1 hb'
          have HAdd := hide (radd_any (Hh.out.later Hbw'.out) ⟨2, name, xs.map Int.toNat⟩ 0 A c (by unfold Nats; simp only; rw [Hcast.out]; exact Ints.below HA.out Hbw'.out) hm (by simp only; rw [Hlen.out]; exact hl))
          simp only [Hlen.out] at HAdd
          go_wp2_with fail
          refine HAdd.out.mono ?_
          rintro e w2 ⟨v', rfl, hp⟩
          obtain ⟨A', cap', hv', -, -⟩ : ∃ A' cap', v' = .slice A' (R.nodes.length + 1) cap' ∧ True ∧ True := by
            obtain ⟨ad', k1, -⟩ := hp
            obtain ⟨A', cap', e, -, -⟩ := own_len k1.own
            exact ⟨A', cap', by rw [e]; simp [RS.add], trivial, trivial⟩
          subst hv'
          have q1 : w2.heap[w.heap.size + 1]? = some (.cells #[.slice none 0 0] 29 (0, 0)) := by
            obtain ⟨ad', k1, k2, k3, k4⟩ := hp
            exact (k2.block _ (Array.getElem?_eq_some_iff.1 Hq1'.out).1 (fun hf => by have := Hh.out.lt _ hf; omega)).trans Hq1'.out
          have hz2 : w.heap.size + 1 < w2.heap.size := (Array.getElem?_eq_some_iff.1 q1).1
          obtain ⟨s1', t1'⟩ := one_cell q1
          have HP := hide hp; have Hq3 := hide q1
          clear hp q1 HAdd
          go_wp2
          have hq4 := blk_set Hq3.out 0 (.slice A' (R.nodes.length + 1) cap')
          have hz5 := (Below.heap_alloc (w2.setCell ⟨w.heap.size + 1, 0, none⟩ (.slice A' (R.nodes.length + 1) cap')) (.cells #[.slice A' (R.nodes.length + 1) cap'] 29) _ (Array.getElem?_eq_some_iff.1 hq4).1).trans hq4
          obtain ⟨W5, hW5⟩ : ∃ W5, (w2.setCell ⟨w.heap.size + 1, 0, none⟩ (.slice A' (R.nodes.length + 1) cap')).alloc (.cells #[.slice A' (R.nodes.length + 1) cap'] 29) = W5 := ⟨_, rfl⟩
          have hpost : RMakeAny w (.slice A0 R.nodes.length cap0) ad R 2 name xs (.returned (.tuple #[.agg #[.slice A' (R.nodes.length + 1) cap'], .int .i64 (R.nodes.length : Int), .int .i64 0])) W5 := by
            refine ⟨_, by unfold makeV; rw [Herr.out, if_pos rfl], .inl ⟨Herr.out, HP.out.shift (F := fun b => b = w.heap.size + 1) Hh.out Hbw'.out ?_ (fun b hb => ⟨by omega, .inl (by have := (Array.getElem?_eq_some_iff.1 Hq1'.out).1; omega)⟩)⟩⟩
            rw [← hW5]; exact ((Only.refl (fun b => b = w.heap.size + 1) w2).setCell (p := ⟨w.heap.size + 1, 0, none⟩) (.inl rfl) _).alloc _
          rw [hW5] at hz5
          obtain ⟨k0, -⟩ := one_cell hz5
          simp only [hW5]
          clear hW5 hz5 hq4 s1' t1'
          exact bodyPost_ret (v := .tuple #[.agg #[.slice A' (R.nodes.length + 1) cap'], .int .i64 (R.nodes.length : Int), .int .i64 0]) (by simp [results, Try.results35, go_sem, k0]) rfl hpost
        · have Herr : Hid (makeErr R.nodes.length 2 name xs = 120) := hide (by unfold makeErr; rw [if_neg (by simp [Hall.out]), if_pos (.inl ⟨rfl, hq⟩)])
          generalize kindL name.toList = K at *
          have hne : (K != 1) = true := by simpa using hq
          clear hq
          go_wp2_with fail
          refine HKd.out.mono ?_
          rintro e w' ⟨rfl, hb'⟩
          have Hbw' := hide (Hbw.out.trans (hb'.mono (by omega)))
          have q0 := (hb'.block (w.heap.size) (by omega)).trans Hq0.out
          have q1 := (hb'.block (w.heap.size + 1) (by omega)).trans Hq1.out
          obtain ⟨s0', t0'⟩ := one_cell q0
          obtain ⟨s1', t1'⟩ := one_cell q1
          have Hq1' := hide q1
          clear s0 t0 s1 t1 q0 q1 hb'
          go_wp2
          have hz5 := blk_set Hq1'.out 0 (.slice A0 R.nodes.length cap0)
          obtain ⟨W5, hW5⟩ : ∃ W5, w'.setCell ⟨w.heap.size + 1, 0, none⟩ (.slice A0 R.nodes.length cap0) = W5 := ⟨_, rfl⟩
          have hpost : RMakeAny w (.slice A0 R.nodes.length cap0) ad R 2 name xs (.returned (.tuple #[.agg #[.slice A0 R.nodes.length cap0], .int .i64 0, .int .i64 120])) W5 := by
            refine rmake_no Herr.out (by decide) ?_
            rw [← hW5]; exact Hbw'.out.setCell (p := ⟨w.heap.size + 1, 0, none⟩) (by simp) _
          rw [hW5] at hz5
          obtain ⟨k0, -⟩ := one_cell hz5
          simp only [hW5]
          clear hW5 hz5
          exact bodyPost_ret (v := .tuple #[.agg #[.slice A0 R.nodes.length cap0], .int .i64 0, .int .i64 120]) (by simp [results, Try.results35, go_sem, k0]) rfl hpost
      · by_cases hq : 2 ≤ xs.length
        · have Herr : Hid (makeErr R.nodes.length 3 name xs = 0) := hide (by unfold makeErr; rw [if_neg (by simp [Hall.out]), if_neg (by rintro (⟨h, _⟩ | ⟨_, h⟩); exact absurd h (by decide); omega)])
          have d2 : decide ((xs.length : Int) < 2) = false := by simp; omega
          clear s1 t1
          have HAdd := hide (radd_any (Hh.out.later Hbw.out) ⟨3, name, xs.map Int.toNat⟩ 0 A c (by unfold Nats; simp only; rw [Hcast.out]; exact Ints.below HA.out Hbw.out) hm (by simp only; rw [Hlen.out]; exact hl))
          simp only [Hlen.out] at HAdd
          go_wp2_with fail
          refine HAdd.out.mono ?_
          rintro e w2 ⟨v', rfl, hp⟩
          obtain ⟨A', cap', hv', -, -⟩ : ∃ A' cap', v' = .slice A' (R.nodes.length + 1) cap' ∧ True ∧ True := by
            obtain ⟨ad', k1, -⟩ := hp
            obtain ⟨A', cap', e, -, -⟩ := own_len k1.own
            exact ⟨A', cap', by rw [e]; simp [RS.add], trivial, trivial⟩
          subst hv'
          have q1 : w2.heap[w.heap.size + 1]? = some (.cells #[.slice none 0 0] 29 (0, 0)) := by
            obtain ⟨ad', k1, k2, k3, k4⟩ := hp
            exact (k2.block _ (Array.getElem?_eq_some_iff.1 Hq1.out).1 (fun hf => by have := Hh.out.lt _ hf; omega)).trans Hq1.out
          have hz2 : w.heap.size + 1 < w2.heap.size := (Array.getElem?_eq_some_iff.1 q1).1
          obtain ⟨s1', t1'⟩ := one_cell q1
          have HP := hide hp; have Hq3 := hide q1
          clear hp q1 HAdd
          go_wp2
          have hq4 := blk_set Hq3.out 0 (.slice A' (R.nodes.length + 1) cap')
          have hz5 := (Below.heap_alloc (w2.setCell ⟨w.heap.size + 1, 0, none⟩ (.slice A' (R.nodes.length + 1) cap')) (.cells #[.slice A' (R.nodes.length + 1) cap'] 29) _ (Array.getElem?_eq_some_iff.1 hq4).1).trans hq4
          obtain ⟨W5, hW5⟩ : ∃ W5, (w2.setCell ⟨w.heap.size + 1, 0, none⟩ (.slice A' (R.nodes.length + 1) cap')).alloc (.cells #[.slice A' (R.nodes.length + 1) cap'] 29) = W5 := ⟨_, rfl⟩
          have hpost : RMakeAny w (.slice A0 R.nodes.length cap0) ad R 3 name xs (.returned (.tuple #[.agg #[.slice A' (R.nodes.length + 1) cap'], .int .i64 (R.nodes.length : Int), .int .i64 0])) W5 := by
            refine ⟨_, by unfold makeV; rw [Herr.out, if_pos rfl], .inl ⟨Herr.out, HP.out.shift (F := fun b => b = w.heap.size + 1) Hh.out Hbw.out ?_ (fun b hb => ⟨by omega, .inl (by have := (Array.getElem?_eq_some_iff.1 Hq1.out).1; omega)⟩)⟩⟩
            rw [← hW5]; exact ((Only.refl (fun b => b = w.heap.size + 1) w2).setCell (p := ⟨w.heap.size + 1, 0, none⟩) (.inl rfl) _).alloc _
          rw [hW5] at hz5
          obtain ⟨k0, -⟩ := one_cell hz5
          simp only [hW5]
          clear hW5 hz5 hq4 s1' t1'
          exact bodyPost_ret (v := .tuple #[.agg #[.slice A' (R.nodes.length + 1) cap'], .int .i64 (R.nodes.length : Int), .int .i64 0]) (by simp [results, Try.results35, go_sem, k0]) rfl hpost
        · have Herr : Hid (makeErr R.nodes.length 3 name xs = 120) := hide (by unfold makeErr; rw [if_neg (by simp [Hall.out]), if_pos (.inr ⟨rfl, by omega⟩)])
          have d2 : decide ((xs.length : Int) < 2) = true := by simp; omega
          go_wp2
          have hz5 := blk_set Hq1.out 0 (.slice A0 R.nodes.length cap0)
          obtain ⟨W5, hW5⟩ : ∃ W5, wr.setCell ⟨w.heap.size + 1, 0, none⟩ (.slice A0 R.nodes.length cap0) = W5 := ⟨_, rfl⟩
          have hpost : RMakeAny w (.slice A0 R.nodes.length cap0) ad R 3 name xs (.returned (.tuple #[.agg #[.slice A0 R.nodes.length cap0], .int .i64 0, .int .i64 120])) W5 := by
            refine rmake_no Herr.out (by decide) ?_
            rw [← hW5]; exact Hbw.out.setCell (p := ⟨w.heap.size + 1, 0, none⟩) (by simp) _
          rw [hW5] at hz5
          obtain ⟨k0, -⟩ := one_cell hz5
          simp only [hW5]
          clear hW5 hz5
          exact bodyPost_ret (v := .tuple #[.agg #[.slice A0 R.nodes.length cap0], .int .i64 0, .int .i64 120]) (by simp [results, Try.results35, go_sem, k0]) rfl hpost
      · have Herr : Hid (makeErr R.nodes.length 4 name xs = 0) := hide (by unfold makeErr; rw [if_neg (by simp [Hall.out]), if_neg (by rintro (⟨h, _⟩ | ⟨h, _⟩) <;> exact absurd h (by decide))])
        clear s1 t1
        have HAdd := hide (radd_any (Hh.out.later Hbw.out) ⟨4, name, xs.map Int.toNat⟩ 0 A c (by unfold Nats; simp only; rw [Hcast.out]; exact Ints.below HA.out Hbw.out) hm (by simp only; rw [Hlen.out]; exact hl))
        simp only [Hlen.out] at HAdd
        go_wp2_with fail
        refine HAdd.out.mono ?_
        rintro e w2 ⟨v', rfl, hp⟩
        obtain ⟨A', cap', hv', -, -⟩ : ∃ A' cap', v' = .slice A' (R.nodes.length + 1) cap' ∧ True ∧ True := by
          obtain ⟨ad', k1, -⟩ := hp
          obtain ⟨A', cap', e, -, -⟩ := own_len k1.own
          exact ⟨A', cap', by rw [e]; simp [RS.add], trivial, trivial⟩
        subst hv'
        have q1 : w2.heap[w.heap.size + 1]? = some (.cells #[.slice none 0 0] 29 (0, 0)) := by
          obtain ⟨ad', k1, k2, k3, k4⟩ := hp
          exact (k2.block _ (Array.getElem?_eq_some_iff.1 Hq1.out).1 (fun hf => by have := Hh.out.lt _ hf; omega)).trans Hq1.out
        have hz2 : w.heap.size + 1 < w2.heap.size := (Array.getElem?_eq_some_iff.1 q1).1
        obtain ⟨s1', t1'⟩ := one_cell q1
        have HP := hide hp; have Hq3 := hide q1
        clear hp q1 HAdd
        go_wp2
        have hq4 := blk_set Hq3.out 0 (.slice A' (R.nodes.length + 1) cap')
        have hz5 := (Below.heap_alloc (w2.setCell ⟨w.heap.size + 1, 0, none⟩ (.slice A' (R.nodes.length + 1) cap')) (.cells #[.slice A' (R.nodes.length + 1) cap'] 29) _ (Array.getElem?_eq_some_iff.1 hq4).1).trans hq4
        obtain ⟨W5, hW5⟩ : ∃ W5, (w2.setCell ⟨w.heap.size + 1, 0, none⟩ (.slice A' (R.nodes.length + 1) cap')).alloc (.cells #[.slice A' (R.nodes.length + 1) cap'] 29) = W5 := ⟨_, rfl⟩
        have hpost : RMakeAny w (.slice A0 R.nodes.length cap0) ad R 4 name xs (.returned (.tuple #[.agg #[.slice A' (R.nodes.length + 1) cap'], .int .i64 (R.nodes.length : Int), .int .i64 0])) W5 := by
          refine ⟨_, by unfold makeV; rw [Herr.out, if_pos rfl], .inl ⟨Herr.out, HP.out.shift (F := fun b => b = w.heap.size + 1) Hh.out Hbw.out ?_ (fun b hb => ⟨by omega, .inl (by have := (Array.getElem?_eq_some_iff.1 Hq1.out).1; omega)⟩)⟩⟩
          rw [← hW5]; exact ((Only.refl (fun b => b = w.heap.size + 1) w2).setCell (p := ⟨w.heap.size + 1, 0, none⟩) (.inl rfl) _).alloc _
        rw [hW5] at hz5
        obtain ⟨k0, -⟩ := one_cell hz5
        simp only [hW5]
        clear hW5 hz5 hq4 s1' t1'
        exact bodyPost_ret (v := .tuple #[.agg #[.slice A' (R.nodes.length + 1) cap'], .int .i64 (R.nodes.length : Int), .int .i64 0]) (by simp [results, Try.results35, go_sem, k0]) rfl hpost
end Go.Proofs.Ytafpbdmggnfdnaa
