/- The contracts of the reference's Spans and of the statements' sameSpans. -/
import Derived.Test.YtniofjeefphlmaaSpans
import Derived.Test.YtniofjeefphlmaaWordsRef
import Derived.Laws.OwnMore
namespace Go.Proofs.Ytniofjeefphlmaa
open Go.RowKit
set_option linter.unusedVariables false

theorem ris_any (s : ByteArray) (k f t : Int) (u : ByteArray) (w : World) (hs : s.size ≤ 1000000) :
    Calls Try.prog 22 #[.string s, .agg #[.int .i64 k, .int .i64 f, .int .i64 t], .string u] w fun e w' => e = .returned (.bool (isB s k f t u)) ∧ Below w.heap.size w w' := by
  by_cases hk : k = 5 ∨ k = 6
  · refine (ris_yes s k f t u w hs hk).mono ?_
    rintro e w' ⟨rfl, rfl⟩
    refine ⟨ret_bool ?_, ((Below.refl _ _).alloc (Nat.le_refl _) _).alloc (by simp) _⟩
    unfold isB
    rcases hk with rfl | rfl <;> simp
  · have h5 : (k == 5) = false := by simp; omega
    have h6 : (k == 6) = false := by simp; omega
    refine (ris_no s k f t u w hs h5 h6).mono ?_
    rintro e w' ⟨rfl, rfl⟩
    refine ⟨ret_bool ?_, (Below.refl _ _).alloc (Nat.le_refl _) _⟩
    unfold isB
    rw [h5, h6]; rfl
theorem own_form2 {w : World} {base : Nat} {e : TypeId} {size n : Nat} {v : Value} {xs : List Value} (h : w.ownsRow base e size v n xs) (hn : 0 < n) : ∃ g cap, v = .slice (some ⟨g, 0, none⟩) n cap := by
  rcases h.2 with ⟨_, h2⟩ | ⟨g, cap, cur, h1, _⟩
  · omega
  · exact ⟨g, cap, h1⟩
theorem own_last {w : World} {base : Nat} {e : TypeId} {g cap : Nat} {rows : List Sp} {a b : Value} (h : w.ownsRow base e 2 (.slice (some ⟨g, 0, none⟩) (rows.length + 1) cap) (rows.length + 1) (cellsSp rows ++ [a, b])) : w.cell? ⟨g, rows.length * 2 + 1, none⟩ = some b := by
  rw [h.cellAt _ (by omega), List.getElem?_append_right (by rw [cellsSp_length]; omega), cellsSp_length]
  simp
theorem set_last (rows : List Sp) (a b u : Value) : (cellsSp rows ++ [a, b]).set (rows.length * 2 + 1) u = cellsSp rows ++ [a, u] := by
  rw [List.set_append_right _ _ (by rw [cellsSp_length]; omega), cellsSp_length]
  congr 1
  rw [show rows.length * 2 + 1 - rows.length * 2 = 1 by omega]
  rfl

theorem tok_kept {w w' : World} {v : Value} {o : Obj} {b k : Nat} {x : Value} (hg : (w.alloc o).grownBy w' v.ownBlock) (h : w.cell? ⟨b, k, none⟩ = some x) (hn : ∀ g, v.ownBlock = some g → g ≠ b) : w'.cell? ⟨b, k, none⟩ = some x := by
  have hb : b < w.heap.size := World.block_lt_of_cell? w _ h
  rw [World.cell?_of_block (w := w.alloc o) (hg.block b (by simp; omega) (fun e => hn b e.symm rfl)), World.cell?_alloc_lt _ _ _ hb]
  exact h

structure RSpRel (s : ByteArray) (xs : List Tk) (w : World) (v : Value) (opn : Bool) (i : Nat) (wr : World) : Prop where
  le : i ≤ xs.length
  opn_ : (spFold (sepB s) (xs.take i)).opn = opn
  own : wr.ownsRow w.heap.size 48 2 v (spOut (spFold (sepB s) (xs.take i))).length (cellsSp (spOut (spFold (sepB s) (xs.take i))))
  below : Below w.heap.size w wr

set_option maxHeartbeats 2000000 in
theorem rspans_any (s : ByteArray) (A : Option Addr) (c : Nat) (xs : List Tk) (B : Nat) (w : World) (ha : Toks w B A xs) (hB : B ≤ w.heap.size) (hs : s.size ≤ 1000000) (hx : xs.length ≤ 1000000) :
    Calls Try.prog 30 #[.string s, .slice A xs.length c] w fun e w' => ∃ v, e = .returned v ∧ w'.ownsRow w.heap.size 48 2 v (spans (sepB s) xs).length (cellsSp (spans (sepB s) xs)) ∧ Below w.heap.size w w' := by
  obtain ⟨i0, hi, hz0, hz1, hz2⟩ := info_parts spInfo
  have Hi := hide hi; have Hz0 := hide hz0; have Hz1 := hide hz1; have Hz2 := hide hz2; clear hi hz0 hz1 hz2
  go_enter Try.func30, Try.ntmps30
  go_wp2
  go_loopw [5, 6, 7] (fun v vo vi wr => ∃ (i : Nat) (o : Bool), vi = .int .i64 i ∧ vo = .bool o ∧ RSpRel s xs w v o i wr) (fun _ _ vi _ => xs.length - (intOf vi).toNat)
  case atStart => exact ⟨0, false, rfl, rfl, ⟨by omega, rfl, ⟨by simp [spFold, spOut, cellsSp], .inr ⟨w.heap.size, 0, #[], rfl, Nat.le_refl _, heap_alloc_new w _, by simp [spFold, spOut], by simp [maxLen], by simp, by simp [spFold, spOut, cellsSp]⟩⟩, (Below.refl _ _).alloc (Nat.le_refl _) _⟩⟩
  case round =>
    obtain ⟨i, o, rfl, rfl, HR⟩ := hrel
    have hil := HR.le
    have hlen := spOut_len (sepB s) (xs.take i)
    rw [List.length_take] at hlen
    by_cases hlt : i < xs.length
    · have hst := spFold_snoc (sepB s) xs i hlt
      have hown := HR.own; have hbel := HR.below; have hop := HR.opn_
      have hsz := hbel.size
      obtain ⟨b, off, rfl, hbB, a1, a2, a3⟩ := (ha.below (hbel.mono hB)).at_ i hlt
      obtain ⟨X, hX⟩ : ∃ X, xs[i] = X := ⟨_, rfl⟩
      rw [hX] at a1 a2 a3 hst
      clear hX
      obtain ⟨x1, x2, x3⟩ := X
      simp only at a1 a2 a3
      generalize spFold (sepB s) (xs.take i) = st at *
      obtain ⟨rows, ⟨r0, r1⟩, op⟩ := st
      simp only at hop hlen
      subst hop
      have hbw : b < wr.heap.size := by omega
      have HBe := hide hbel
      clear hbel HR
      obtain ⟨P, hP⟩ : ∃ P, isB s x1 x2 x3 ⟨#[59, 59]⟩ = P := ⟨_, rfl⟩
      have HSP := hide hP
      have HST : Hid (sepB s (x1, x2, x3) = P) := hide hP
      clear hP
      have hrl : rows.length ≤ 1000000 := by omega
      cases P
      · rw [sp_step_not _ _ _ HST.out] at hst
        have Hst := hide hst; clear hst
        cases op
        · simp only [spOut, Bool.false_eq_true, if_false] at hown
          have HO := hide hown; clear hown
          have HTB : Hid (∀ k, u5.ownBlock = some k → k ≠ wr.heap.size) := hide (fun k hk => by have := (HO.out.lt k hk).2; omega)
          go_wp2_with (first | (go_at_call 22; refine (ris_any _ _ _ _ _ _ hs).mono ?_; rintro e w2 ⟨rfl, hb2⟩; rw [HSP.out]; have hq1 : w2.cell? ⟨wr.heap.size, 1, none⟩ = some (.int .i64 x2) := (by rw [hb2.cell (p := ⟨wr.heap.size, 1, none⟩) (by simp)]; simp); have hq2 : w2.cell? ⟨wr.heap.size, 2, none⟩ = some (.int .i64 x3) := (by rw [hb2.cell (p := ⟨wr.heap.size, 2, none⟩) (by simp)]; simp); have hown2 := own_below (HO.out.alloc _) hb2; have hz2 : w.heap.size ≤ w2.heap.size := (by have := hb2.size; simp at this; omega); have HBL2 : Hid (Below w.heap.size w w2) := hide ((HBe.out.alloc (by omega) _).trans (hb2.mono (by simp; omega)))) | (at_builtin; go_must (refine wpList_append_own _ rfl (.tmp 25) (.tmp 31) 45 rfl w.heap.size 48 i0 _ 2 16 Try.underlying45 Hi.out Hz0.out Hz1.out Hz2.out rfl (by decide) _ rows.length (cellsSp rows) rfl (hown2.alloc _) ⟨w2.heap.size, 0, none⟩ 1 1 [.int .i64 x2, .int .i64 x3] rfl rfl (cell_two_new _ _ _ _) (by intro u hu; simp at hu; rcases hu with rfl | rfl <;> rfl) (by unfold maxLen; omega) (by omega) (by simp; omega) ?_); intro v4 w4 hown4 hgrow4 hnil4; obtain ⟨g, cap, rfl⟩ := own_form2 hown4 (by omega); have hlt4 := fun k hk => (hown2.lt k hk).1; have hB4 : Below w.heap.size w w4 := (HBL2.out.alloc (by omega) _).grown hgrow4 (by simp; omega) (fun k hk => by have := hlt4 k hk; omega); have hg4 := (hown4.lt g rfl).1; have hcl := own_last hown4; have hfz := hown4.frozenAt (rows.length * 2 + 1); have hq3 : w4.cell? ⟨wr.heap.size, 2, none⟩ = some (.int .i64 x3) := tok_kept hgrow4 hq2 HTB.out))
          have HO4 := hide (hown4.stored (rows.length * 2 + 1) (.int .i64 x3)).1
          rw [set_last] at HO4
          clear hown4
          go_region
          go_wp2
          go_roundw
          case rel =>
            refine ⟨i + 1, true, by go_num, rfl, ⟨by omega, by rw [Hst.out], ?_, ?_⟩⟩
            · rw [Hst.out]
              simp only [spOut, if_true, Bool.false_eq_true, if_false]
              rw [cellsSp_snoc, List.length_append]
              exact own_below HO4.out (Below.refl _ _).drew
            · exact (hB4.setCell hg4 _).drew
          case measure => simp [intOf]; omega
        · simp only [spOut, if_true] at hown
          rw [List.length_append, cellsSp_snoc] at hown
          obtain ⟨g, cap, rfl⟩ := own_form2 hown (by simp)
          have HO := hide hown; clear hown
          go_wp2_with (first | (go_at_call 22; refine (ris_any _ _ _ _ _ _ hs).mono ?_; rintro e w2 ⟨rfl, hb2⟩; rw [HSP.out]; have hq1 : w2.cell? ⟨wr.heap.size, 1, none⟩ = some (.int .i64 x2) := (by rw [hb2.cell (p := ⟨wr.heap.size, 1, none⟩) (by simp)]; simp); have hq2 : w2.cell? ⟨wr.heap.size, 2, none⟩ = some (.int .i64 x3) := (by rw [hb2.cell (p := ⟨wr.heap.size, 2, none⟩) (by simp)]; simp); have hown2 := own_below (HO.out.alloc _) hb2; have hz2 : w.heap.size ≤ w2.heap.size := (by have := hb2.size; simp at this; omega); have HBL2 : Hid (Below w.heap.size w w2) := hide ((HBe.out.alloc (by omega) _).trans (hb2.mono (by simp; omega)))))
          have hcl := own_last hown2
          have hfz := hown2.frozenAt (rows.length * 2 + 1)
          have hg4 := (hown2.lt g rfl).1
          have HO4 := hide (hown2.stored (rows.length * 2 + 1) (.int .i64 x3)).1
          rw [show cell2 (r0, r1) = [.int .i64 r0, .int .i64 r1] from rfl, set_last] at HO4
          clear hown2
          go_region
          go_wp2
          go_roundw
          case rel =>
            refine ⟨i + 1, true, by go_num, rfl, ⟨by omega, by rw [Hst.out], ?_, ?_⟩⟩
            · rw [Hst.out]
              simp only [spOut, if_true]
              rw [cellsSp_snoc, List.length_append]
              exact own_below HO4.out (Below.refl _ _).drew
            · exact (HBL2.out.setCell hg4 _).drew
          case measure => simp [intOf]; omega
      · rw [sp_step_sep _ _ _ HST.out] at hst
        have Hst := hide hst; clear hst
        have HO := hide hown; clear hown
        have hso : spOut (spFold (sepB s) (xs.take (i + 1))) = spOut ⟨rows, (r0, r1), op⟩ := by rw [Hst.out]; cases op <;> rfl
        have HSO := hide hso; clear hso
        go_wp2_with (first | (go_at_call 22; refine (ris_any _ _ _ _ _ _ hs).mono ?_; rintro e w2 ⟨rfl, hb2⟩; rw [HSP.out]; have hq1 : w2.cell? ⟨wr.heap.size, 1, none⟩ = some (.int .i64 x2) := (by rw [hb2.cell (p := ⟨wr.heap.size, 1, none⟩) (by simp)]; simp); have hq2 : w2.cell? ⟨wr.heap.size, 2, none⟩ = some (.int .i64 x3) := (by rw [hb2.cell (p := ⟨wr.heap.size, 2, none⟩) (by simp)]; simp); have hown2 := own_below (HO.out.alloc _) hb2; have hz2 : w.heap.size ≤ w2.heap.size := (by have := hb2.size; simp at this; omega); have HBL2 : Hid (Below w.heap.size w w2) := hide ((HBe.out.alloc (by omega) _).trans (hb2.mono (by simp; omega)))))
        go_roundw
        case rel => exact ⟨i + 1, false, by go_num, rfl, ⟨by omega, by rw [Hst.out], by rw [HSO.out]; exact hown2, HBL2.out⟩⟩
        case measure => simp [intOf]; omega
    · obtain rfl : i = xs.length := by omega
      have hown := HR.own; have hbel := HR.below
      rw [List.take_length] at hown
      go_wp2
      go_ret
      exact ⟨_, rfl, hown, hbel⟩

/-- The slice with this address holds these spans, below block B. -/
def Sps (w : World) (B : Nat) (A : Option Addr) (ps : List Sp) : Prop :=
  ps ≠ [] → ∃ b off, A = some ⟨b, off, none⟩ ∧ b < B ∧ ∀ j u, (cellsSp ps)[j]? = some u → w.cell? ⟨b, off + j, none⟩ = some u
theorem cellsSp_at (xs : List Sp) (k : Nat) (t : Sp) (h : xs[k]? = some t) : (cellsSp xs)[k * 2]? = some (.int .i64 t.1) ∧ (cellsSp xs)[k * 2 + 1]? = some (.int .i64 t.2) := by
  induction xs generalizing k with
  | nil => simp at h
  | cons x xs ih =>
    rcases k with _ | k
    · simp at h; subst h; simp [cellsSp, cell2]
    · simp at h
      obtain ⟨h1, h2⟩ := ih k h
      have e : ∀ j, (cellsSp (x :: xs))[j + 2]? = (cellsSp xs)[j]? := by
        intro j
        simp only [cellsSp, List.flatMap_cons, cell2]
        simp
      refine ⟨?_, ?_⟩
      · rw [show (k + 1) * 2 = k * 2 + 2 by omega, e]; exact h1
      · rw [show (k + 1) * 2 + 1 = k * 2 + 1 + 2 by omega, e]; exact h2
theorem Sps.at_ {w : World} {B : Nat} {A : Option Addr} {xs : List Sp} (h : Sps w B A xs) (k : Nat) (hk : k < xs.length) : ∃ b off, A = some ⟨b, off, none⟩ ∧ b < B ∧
    w.cell? ⟨b, off + k * 2, none⟩ = some (.int .i64 xs[k].1) ∧ w.cell? ⟨b, off + k * 2 + 1, none⟩ = some (.int .i64 xs[k].2) := by
  obtain ⟨b, off, e, hb, hc⟩ := h (by intro e; subst e; simp at hk)
  obtain ⟨h1, h2⟩ := cellsSp_at xs k xs[k] (List.getElem?_eq_getElem hk)
  exact ⟨b, off, e, hb, hc _ _ h1, by rw [Nat.add_assoc]; exact hc _ _ h2⟩
theorem Sps.below {w w' : World} {B : Nat} {A : Option Addr} {xs : List Sp} (h : Sps w B A xs) (hb : Below B w w') : Sps w' B A xs := by
  intro hn
  obtain ⟨b, off, e, hbb, hc⟩ := h hn
  exact ⟨b, off, e, hbb, fun j u hu => (hb.cell hbb).trans (hc j u hu)⟩
theorem Sps.of_own {w : World} {base : Nat} {e : TypeId} {v : Value} {xs : List Sp} (h : w.ownsRow base e 2 v xs.length (cellsSp xs)) : ∃ A c, v = .slice A xs.length c ∧ Sps w w.heap.size A xs := by
  rcases h.2 with ⟨hv, hn⟩ | ⟨g, cap, cur, hv, _, hh, _⟩
  · exact ⟨none, 0, by rw [hn]; exact hv, fun hne => absurd (List.eq_nil_of_length_eq_zero hn) hne⟩
  · refine ⟨_, cap, hv, fun _ => ⟨g, 0, rfl, ?_, fun j u hu => ?_⟩⟩
    · rcases Nat.lt_or_ge g w.heap.size with hlt | hge
      · exact hlt
      · rw [Array.getElem?_eq_none hge] at hh; cases hh
    · have := h.cells (g := g) (by rw [hv]; rfl) j u hu
      rcases Nat.eq_zero_or_pos j with rfl | hj
      · simpa [Addr.add] using this
      · simpa [Addr.add, show ¬ j = 0 by omega] using this
end Go.Proofs.Ytniofjeefphlmaa
