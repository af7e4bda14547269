/- The contract of lex.Lex: the tokens of a text, in new memory. -/
import Derived.Test.YtniofjeefphlmaaRemark
namespace Go.Proofs.Ytniofjeefphlmaa
open Go.RowKit
set_option linter.unusedVariables false

def cell3 (t : Tk) : List Value := [.int .i64 t.1, .int .i64 t.2.1, .int .i64 t.2.2]
def cellsOf (l : List Tk) : List Value := l.flatMap cell3
theorem cellsOf_snoc (l : List Tk) (t : Tk) : cellsOf (l ++ [t]) = cellsOf l ++ cell3 t := by simp [cellsOf]
theorem cellsOf_length (l : List Tk) : (cellsOf l).length = l.length * 3 := by
  induction l with
  | nil => rfl
  | cons t l ih => simp only [cellsOf, List.flatMap_cons, List.length_append, List.length_cons] at *; rw [ih]; simp [cell3]; omega
theorem cell_three_new (w : World) (a b c : Value) (t : TypeId) : ∀ j u, [a, b, c][j]? = some u → (w.alloc (.cells #[a, b, c] t)).cell? ((⟨w.heap.size, 0, none⟩ : Addr).add j) = some u := by
  intro j u hj
  match j, hj with
  | 0, hj => simp at hj; subst hj; simp [Addr.add]
  | 1, hj => simp at hj; subst hj; simp [Addr.add]
  | 2, hj => simp at hj; subst hj; simp [Addr.add]
  | j + 3, hj => simp at hj
theorem tokInfo : (Try.prog.info? 28).map (fun i => (i.zero, i.size, i.bytes)) = some (some (.agg #[.int .i64 0, .int .i64 0, .int .i64 0]), 3, 24) := by kernel_rfl

theorem lx_at_white (s : ByteArray) (k : Nat) (h : k < s.size) (hw : whiteB (byt s k) = true) : lx (s.toList.drop k) k = lx (s.toList.drop (k + 1)) (k + 1) := by
  obtain ⟨c, hc, e⟩ := drop_byt s k h
  rw [e, lx_white _ _ _ (by rw [hc]; exact hw)]
theorem lx_at_remark (s : ByteArray) (k : Nat) (h : k < s.size) (hw : whiteB (byt s k) = false) (ho : opensL (s.toList.drop k) = true) (he : (remL (s.toList.drop k) 0 0).2 = true) :
    lx (s.toList.drop k) k = lx (s.toList.drop (k + (remL (s.toList.drop k) 0 0).1)) (k + (remL (s.toList.drop k) 0 0).1) := by
  obtain ⟨c, hc, e⟩ := drop_byt s k h
  rw [← List.drop_drop]
  rw [e] at ho he ⊢
  exact lx_remark _ _ _ (by rw [hc]; exact hw) ho he
theorem lx_at_open (s : ByteArray) (k : Nat) (h : k < s.size) (hw : whiteB (byt s k) = false) (ho : opensL (s.toList.drop k) = true) (he : (remL (s.toList.drop k) 0 0).2 = false) :
    lx (s.toList.drop k) k = [(7, (k : Int), ((k + (remL (s.toList.drop k) 0 0).1 : Nat) : Int))] := by
  obtain ⟨c, hc, e⟩ := drop_byt s k h
  rw [e] at ho he ⊢
  rw [lx_open _ _ _ (by rw [hc]; exact hw) ho he]; simp
theorem lx_at_piece (s : ByteArray) (k : Nat) (h : k < s.size) (hw : whiteB (byt s k) = false) (ho : opensL (s.toList.drop k) = false) :
    lx (s.toList.drop k) k = ((pieceL (s.toList.drop k)).1, (k : Int), (k : Int) + (pieceL (s.toList.drop k)).2) :: lx (s.toList.drop (k + (pieceL (s.toList.drop k)).2)) (k + (pieceL (s.toList.drop k)).2) := by
  obtain ⟨c, hc, e⟩ := drop_byt s k h
  rw [← List.drop_drop]
  rw [e] at ho ⊢
  exact lx_piece _ _ _ (by rw [hc]; exact hw) ho
theorem pieceL_at (s : ByteArray) (k : Nat) (h : k < s.size) : pieceL (s.toList.drop k) = if (tokenL (s.toList.drop k)).2 = 0 then (7, 1 + noL (s.toList.drop (k + 1))) else tokenL (s.toList.drop k) := by
  unfold pieceL; rw [List.tail_drop]
theorem pieceL_at_le (s : ByteArray) (k : Nat) (h : k < s.size) : k + (pieceL (s.toList.drop k)).2 ≤ s.size := by
  obtain ⟨c, hc, e⟩ := drop_byt s k h
  have := pieceL_le c (s.toList.drop (k + 1))
  rw [← e, List.length_drop, size_toList] at this
  omega

/-- What a round has made so far. -/
structure LexRel (s : ByteArray) (w : World) (v : Value) (k : Nat) (done : List Tk) (wr : World) : Prop where
  le : k ≤ s.size
  eq : lx s.toList 0 = done ++ lx (s.toList.drop k) k
  len : done.length ≤ k
  own : wr.ownsRow w.heap.size 28 3 v done.length (cellsOf done)
  below : Below w.heap.size w wr

theorem LexRel.push {s : ByteArray} {w wr w1 : World} {v v1 : Value} {k k1 : Nat} {done : List Tk} {o : Obj} (h : LexRel s w v k done wr) (t : Tk)
    (hown : w1.ownsRow w.heap.size 28 3 v1 (done.length + 1) (cellsOf done ++ cell3 t)) (hg : (wr.alloc o).grownBy w1 v.ownBlock) (hk : k < k1) (hk1 : k1 ≤ s.size)
    (e : lx (s.toList.drop k) k = t :: lx (s.toList.drop k1) k1) : LexRel s w v1 k1 (done ++ [t]) w1 :=
  ⟨hk1, by rw [h.eq, e]; simp, by simp; have := h.len; omega, by rw [cellsOf_snoc, List.length_append]; exact hown,
   (h.below.alloc h.below.size o).grown hg (by simp; exact Nat.le_succ_of_le h.below.size) (fun g hg' => (h.own.lt g hg').1)⟩

set_option maxHeartbeats 2000000 in
theorem lex_any (s : ByteArray) (w : World) (hs : s.size ≤ 1000000) :
    Calls Try.prog 16 #[.string s] w fun e w' => ∃ v, e = .returned v ∧ w'.ownsRow w.heap.size 28 3 v (lx s.toList 0).length (cellsOf (lx s.toList 0)) ∧ Below w.heap.size w w' := by
  obtain ⟨i0, hi, hz0, hz1, hz2⟩ := info_parts tokInfo
  have Hi := hide hi; have Hz0 := hide hz0; have Hz1 := hide hz1; have Hz2 := hide hz2; clear hi hz0 hz1 hz2
  go_enter Try.func16, Try.ntmps16
  go_wp2
  go_step3
  go_wp2
  go_step3
  go_wp2
  go_loopw [3, 4] (fun v a wr => ∃ k done, a = .int .i64 (k : Nat) ∧ LexRel s w v k done wr) (fun _ a _ => s.size - (intOf a).toNat)
  case atStart => exact ⟨0, [], rfl, ⟨Nat.zero_le _, by simp, by simp, World.ownsRow_nil _ _ _ _, Below.refl _ _⟩⟩
  case round =>
    obtain ⟨k, done, rfl, HR⟩ := hrel
    have hkl := HR.len
    have hkm := HR.le
    by_cases hlt : k < s.size
    · have e1 := byt_eq s k hlt
      have HW := hide (lx_at_white s k hlt)
      have HRm := hide (lx_at_remark s k hlt)
      have HOp := hide (lx_at_open s k hlt)
      have HPc := hide (lx_at_piece s k hlt)
      have HPa := hide (pieceL_at s k hlt)
      have hpl := pieceL_at_le s k hlt
      have hpp := pieceL_pos (s.toList.drop k)
      have hrl := (remL_ge (s.toList.drop k) 0 0).2
      rw [List.length_drop, size_toList] at hrl
      have HRp := hide (remL_pos (s.toList.drop k))
      generalize byt s k = x at *
      generalize hM : remL (s.toList.drop k) 0 0 = M at *
      have HM := hide hM; clear hM
      generalize hT : tokenL (s.toList.drop k) = T at *
      have HT := hide hT; clear hT
      generalize hO : opensL (s.toList.drop k) = O at *
      have HO := hide hO; clear hO
      generalize hN : noL (s.toList.drop (k + 1)) = N at *
      have HN := hide hN; clear hN
      generalize hP : pieceL (s.toList.drop k) = P at *
      have HP := hide hP; clear hP
      obtain ⟨t1, t2⟩ := T
      obtain ⟨p1, p2⟩ := P
      obtain ⟨m1, m2⟩ := M
      simp only at hpl hpp hrl
      cases hw : whiteB x
      · cases O
        · rcases Nat.eq_zero_or_pos t2 with ht | ht
          · subst ht
            have hp := HPa.out
            rw [if_pos rfl] at hp
            simp only [Prod.mk.injEq] at hp
            obtain ⟨rfl, rfl⟩ := hp
            have HE := hide (HPc.out hw rfl)
            clear HPa HPc HOp HRm HW
            go_wp2_with (first | (go_at_call 31; refine (white_any _ _).mono ?_; rintro e w' ⟨rfl, rfl⟩) | (go_at_call 32; refine (opens_any _ _ _ (by omega) (by omega) hs).mono ?_; rintro e w' ⟨rfl, rfl⟩; rw [Int.toNat_natCast, HO.out]) | (go_at_call 34; refine (token_any _ _ _ (by omega) (by omega) hs).mono ?_; rintro e w' ⟨rfl, rfl⟩; rw [Int.toNat_natCast, HT.out]) | (go_at_call 35; refine (nothing_any _ _ _ (by omega) (by omega) hs).mono ?_; rintro e w' ⟨rfl, rfl⟩; rw [Int.toNat_natCast, HN.out]) | (at_builtin; refine wpList_append_own _ rfl (.tmp 48) (.tmp 55) 24 rfl w.heap.size 28 i0 _ 3 24 Try.underlying24 Hi.out Hz0.out Hz1.out Hz2.out rfl (by decide) _ done.length (cellsOf done) rfl (HR.own.alloc _) ⟨wr.heap.size, 0, none⟩ 1 1 [.int .i64 7, .int .i64 k, .int .i64 ((k : Int) + (1 + N))] rfl rfl (cell_three_new _ _ _ _ _) (by intro u hu; simp at hu; rcases hu with rfl | rfl | rfl <;> rfl) (by unfold maxLen; omega) (by omega) (by have := HR.below.size; simp; omega) ?_; intro v' w1 hown hgrow hnil))
            have HR1 := HR.push (7, (k : Int), (k : Int) + (1 + N : Nat)) (by simpa [cell3] using hown) hgrow (k1 := k + (1 + N)) (by omega) hpl HE.out
            go_roundw
            case rel => exact ⟨k + (1 + N), _, by go_num, HR1⟩
            case measure => simp [intOf]; omega
          · have hp := HPa.out
            rw [if_neg (show ¬ t2 = 0 by omega)] at hp
            simp only [Prod.mk.injEq] at hp
            obtain ⟨rfl, rfl⟩ := hp
            have HE := hide (HPc.out hw rfl)
            clear HPa HPc HOp HRm HW
            have ht0 : ((p2 : Int) == 0) = false := by simp; omega
            go_wp2_with (first | (go_at_call 31; refine (white_any _ _).mono ?_; rintro e w' ⟨rfl, rfl⟩) | (go_at_call 32; refine (opens_any _ _ _ (by omega) (by omega) hs).mono ?_; rintro e w' ⟨rfl, rfl⟩; rw [Int.toNat_natCast, HO.out]) | (go_at_call 34; refine (token_any _ _ _ (by omega) (by omega) hs).mono ?_; rintro e w' ⟨rfl, rfl⟩; rw [Int.toNat_natCast, HT.out]) | (at_builtin; refine wpList_append_own _ rfl (.tmp 48) (.tmp 55) 24 rfl w.heap.size 28 i0 _ 3 24 Try.underlying24 Hi.out Hz0.out Hz1.out Hz2.out rfl (by decide) _ done.length (cellsOf done) rfl (HR.own.alloc _) ⟨wr.heap.size, 0, none⟩ 1 1 [.int .i64 p1, .int .i64 k, .int .i64 ((k : Int) + p2)] rfl rfl (cell_three_new _ _ _ _ _) (by intro u hu; simp at hu; rcases hu with rfl | rfl | rfl <;> rfl) (by unfold maxLen; omega) (by omega) (by have := HR.below.size; simp; omega) ?_; intro v' w1 hown hgrow hnil))
            have HR1 := HR.push (p1, (k : Int), (k : Int) + p2) (by simpa [cell3] using hown) hgrow (k1 := k + p2) (by omega) hpl HE.out
            go_roundw
            case rel => exact ⟨k + p2, _, by go_num, HR1⟩
            case measure => simp [intOf]; omega
        · have hrp := HRp.out rfl 0 0
          rw [HM.out] at hrp
          simp only at hrp
          cases m2
          · have HE := hide (HOp.out hw rfl rfl)
            clear HPa HPc HOp HRm HW
            go_wp2_with (first | (go_at_call 31; refine (white_any _ _).mono ?_; rintro e w' ⟨rfl, rfl⟩) | (go_at_call 32; refine (opens_any _ _ _ (by omega) (by omega) hs).mono ?_; rintro e w' ⟨rfl, rfl⟩; rw [Int.toNat_natCast, HO.out]) | (go_at_call 33; refine (remark_any _ _ _ (by omega) (by omega) hs).mono ?_; rintro e w' ⟨rfl, rfl⟩; rw [Int.toNat_natCast, HM.out]) | (at_builtin; refine wpList_append_own _ rfl (.tmp 30) (.tmp 34) 24 rfl w.heap.size 28 i0 _ 3 24 Try.underlying24 Hi.out Hz0.out Hz1.out Hz2.out rfl (by decide) _ done.length (cellsOf done) rfl (HR.own.alloc _) ⟨wr.heap.size, 0, none⟩ 1 1 [.int .i64 7, .int .i64 k, .int .i64 ((k : Int) + m1)] rfl rfl (cell_three_new _ _ _ _ _) (by intro u hu; simp at hu; rcases hu with rfl | rfl | rfl <;> rfl) (by unfold maxLen; omega) (by omega) (by have := HR.below.size; simp; omega) ?_; intro v' w1 hown hgrow hnil))
            have HR1 := HR.push (k1 := s.size) (7, (k : Int), ((k + m1 : Nat) : Int)) (by simpa [cell3] using hown) hgrow hlt (Nat.le_refl _) (by rw [HE.out, List.drop_of_length_le (i := s.size) (by rw [size_toList]; omega), lx_nil])
            rw [Exit.noGoto_ret]
            go_ret
            have h := HR1.eq
            rw [List.drop_of_length_le (i := s.size) (by rw [size_toList]; omega), lx_nil, List.append_nil] at h
            rw [h]
            exact ⟨_, rfl, HR1.own, HR1.below⟩
          · have HE := hide (HRm.out hw rfl rfl)
            clear HPa HPc HOp HRm HW
            go_wp2_with (first | (go_at_call 31; refine (white_any _ _).mono ?_; rintro e w' ⟨rfl, rfl⟩) | (go_at_call 32; refine (opens_any _ _ _ (by omega) (by omega) hs).mono ?_; rintro e w' ⟨rfl, rfl⟩; rw [Int.toNat_natCast, HO.out]) | (go_at_call 33; refine (remark_any _ _ _ (by omega) (by omega) hs).mono ?_; rintro e w' ⟨rfl, rfl⟩; rw [Int.toNat_natCast, HM.out]))
            go_roundw
            case rel => exact ⟨k + m1, done, by go_num, ⟨by omega, by rw [HR.eq, HE.out], by omega, HR.own, HR.below⟩⟩
            case measure => simp [intOf]; omega
      · have HWE := hide (HW.out hw)
        clear HW HRm HOp HPc HPa
        go_wp2_with (first | (go_at_call 31; refine (white_any _ _).mono ?_; rintro e w' ⟨rfl, rfl⟩))
        go_roundw
        case rel => exact ⟨k + 1, done, by go_num, ⟨by omega, by rw [HR.eq, HWE.out], by omega, HR.own, HR.below⟩⟩
        case measure => simp [intOf]; omega
    · go_wp2
      rw [Exit.noGoto_ret]
      go_ret
      have h := HR.eq
      rw [List.drop_of_length_le (i := k) (by rw [size_toList]; omega), lx_nil, List.append_nil] at h
      rw [h]
      exact ⟨_, rfl, HR.own, HR.below⟩
end Go.Proofs.Ytniofjeefphlmaa
