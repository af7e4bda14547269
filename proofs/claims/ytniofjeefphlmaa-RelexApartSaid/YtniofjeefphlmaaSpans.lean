/- The contract of relex.Spans. -/
import Derived.Test.YtniofjeefphlmaaPlainSpans
import Derived.Test.YtniofjeefphlmaaWord
import Derived.Test.YtniofjeefphlmaaRefLex
namespace Go.Proofs.Ytniofjeefphlmaa
open Go.RowKit
set_option linter.unusedVariables false

def cell2 (p : Sp) : List Value := [.int .i64 p.1, .int .i64 p.2]
def cellsSp (l : List Sp) : List Value := l.flatMap cell2
theorem cellsSp_snoc (l : List Sp) (p : Sp) : cellsSp (l ++ [p]) = cellsSp l ++ cell2 p := by simp [cellsSp]
theorem cellsSp_length (l : List Sp) : (cellsSp l).length = l.length * 2 := by
  induction l with
  | nil => rfl
  | cons t l ih => simp only [cellsSp, List.flatMap_cons, List.length_append, List.length_cons] at *; rw [ih]; simp [cell2]; omega
theorem spInfo : (Try.prog.info? 48).map (fun i => (i.zero, i.size, i.bytes)) = some (some (.agg #[.int .i64 0, .int .i64 0]), 2, 16) := by kernel_rfl

/-- The sign that parts declarations. -/
def sepB (s : ByteArray) (t : Tk) : Bool := isB s t.1 t.2.1 t.2.2 ⟨#[59, 59]⟩

theorem own_base {w : World} {base base' : Nat} {e : TypeId} {size n : Nat} {v : Value} {xs : List Value} (h : w.ownsRow base e size v n xs) (hb : base' ≤ base) : w.ownsRow base' e size v n xs := by
  refine ⟨h.1, ?_⟩
  rcases h.2 with h1 | ⟨g, cap, cur, h1, h2, h3⟩
  · exact .inl h1
  · exact .inr ⟨g, cap, cur, h1, Nat.le_trans hb h2, h3⟩

theorem blk_cell {w : World} {g : Nat} {cs : Array Value} {t : TypeId} (h : w.heap[g]? = some (.cells cs t (0, 0))) (i : Nat) : w.cell? ⟨g, i, none⟩ = cs[i]? := cell_of_row w g i cs t (0, 0) h
theorem blk_free {w : World} {g : Nat} {cs : Array Value} {t : TypeId} (h : w.heap[g]? = some (.cells cs t (0, 0))) (i : Nat) : w.frozen? ⟨g, i, none⟩ = false := by simp [World.frozen?, h]
theorem blk_set {w : World} {g : Nat} {cs : Array Value} {t : TypeId} (h : w.heap[g]? = some (.cells cs t (0, 0))) (i : Nat) (u : Value) : (w.setCell ⟨g, i, none⟩ u).heap[g]? = some (.cells (cs.setIfInBounds i u) t (0, 0)) := by
  simp [World.setCell, Array.getElem?_modify, h]
theorem sp_step_sep (sep : Tk → Bool) (st : SpSt) (t : Tk) (h : sep t = true) : spStep sep st t = ⟨if st.opn then st.rows ++ [st.row] else st.rows, st.row, false⟩ := by unfold spStep; rw [if_pos h]
theorem sp_step_not (sep : Tk → Bool) (st : SpSt) (t : Tk) (h : sep t = false) : spStep sep st t = ⟨st.rows, (if st.opn then st.row.1 else t.2.1, t.2.2), true⟩ := by unfold spStep; rw [if_neg (by simp [h])]

structure SpRel (s : ByteArray) (xs : List Tk) (w : World) (v : Value) (opn : Bool) (i : Nat) (wr : World) : Prop where
  le : i ≤ xs.length
  opn_ : (spFold (sepB s) (xs.take i)).opn = opn
  own : wr.ownsRow (w.heap.size + 1) 48 2 v (spFold (sepB s) (xs.take i)).rows.length (cellsSp (spFold (sepB s) (xs.take i)).rows)
  blk : wr.heap[w.heap.size]? = some (.cells #[.int .i64 (spFold (sepB s) (xs.take i)).row.1, .int .i64 (spFold (sepB s) (xs.take i)).row.2] 48 (0, 0))
  below : Below w.heap.size w wr
  size : w.heap.size + 1 ≤ wr.heap.size

set_option maxHeartbeats 2000000 in
theorem spans_any (s : ByteArray) (A : Option Addr) (c : Nat) (xs : List Tk) (B : Nat) (w : World) (ha : Toks w B A xs) (hB : B ≤ w.heap.size) (hs : s.size ≤ 1000000) (hx : xs.length ≤ 1000000) :
    Calls Try.prog 29 #[.string s, .slice A xs.length c] w fun e w' => ∃ v, e = .returned v ∧ w'.ownsRow w.heap.size 48 2 v (spans (sepB s) xs).length (cellsSp (spans (sepB s) xs)) ∧ Below w.heap.size w w' := by
  obtain ⟨i0, hi, hz0, hz1, hz2⟩ := info_parts spInfo
  have Hi := hide hi; have Hz0 := hide hz0; have Hz1 := hide hz1; have Hz2 := hide hz2; clear hi hz0 hz1 hz2
  go_enter Try.func29, Try.ntmps29
  go_wp2
  go_loopw [5, 7, 12] (fun v vo vi wr => ∃ (i : Nat) (o : Bool), vi = .int .i64 i ∧ vo = .bool o ∧ SpRel s xs w v o i wr) (fun _ _ vi _ => xs.length - (intOf vi).toNat)
  case atStart => exact ⟨0, false, rfl, rfl, ⟨by omega, rfl, World.ownsRow_nil _ _ _ _, heap_alloc_new w _, (Below.refl _ _).alloc (Nat.le_refl _) _, by simp⟩⟩
  case round =>
    obtain ⟨i, o, rfl, rfl, HR⟩ := hrel
    have hil := HR.le
    have hlen := spOut_len (sepB s) (xs.take i)
    rw [List.length_take] at hlen
    by_cases hlt : i < xs.length
    · have hst := spFold_snoc (sepB s) xs i hlt
      have hown := HR.own; have hblk := HR.blk; have hbel := HR.below; have hsz := HR.size; have hop := HR.opn_
      obtain ⟨b, off, rfl, hbB, a1, a2, a3⟩ := (ha.below (hbel.mono hB)).at_ i hlt
      obtain ⟨X, hX⟩ : ∃ X, xs[i] = X := ⟨_, rfl⟩
      rw [hX] at a1 a2 a3 hst
      clear hX
      obtain ⟨x1, x2, x3⟩ := X
      simp only at a1 a2 a3
      generalize spFold (sepB s) (xs.take i) = st at *
      obtain ⟨rows, ⟨r0, r1⟩, op⟩ := st
      simp only at hown hblk hop hlen
      subst hop
      have hbw : b < wr.heap.size := by omega
      have HO := hide hown; have HBe := hide hbel
      clear hown hbel HR
      obtain ⟨P, hP⟩ : ∃ P, isB s x1 x2 x3 ⟨#[59, 59]⟩ = P := ⟨_, rfl⟩
      have HSP := hide hP
      have HST : Hid (sepB s (x1, x2, x3) = P) := hide hP
      clear hP
      have hrl : rows.length ≤ 1000000 := by omega
      cases P
      · rw [sp_step_not _ _ _ HST.out] at hst
        have Hst := hide hst; clear hst
        cases op
        · go_wp2_with (first | (go_at_call 21; refine (is_any _ _ _ _ _ _ hs).mono ?_; rintro e w2 ⟨rfl, hb2⟩; rw [HSP.out]; have hq1 := hb2.cell (p := ⟨wr.heap.size, 1, none⟩) (by simp); have hq2 := hb2.cell (p := ⟨wr.heap.size, 2, none⟩) (by simp); have hz2 : w.heap.size + 1 ≤ w2.heap.size := (by have := hb2.size; simp at this; omega); have hblk2 : w2.heap[w.heap.size]? = some (.cells #[.int .i64 r0, .int .i64 r1] 48 (0, 0)) := ((hb2.block _ (by simp; omega)).trans ((Below.heap_alloc wr _ _ (by omega)).trans hblk)); have cc0 := blk_cell hblk2 0; have cc1 := blk_cell hblk2 1; have ff0 := blk_free hblk2 0; have ff1 := blk_free hblk2 1; have hown2 := own_below (HO.out.alloc _) hb2; have HBL2 : Hid (Below w.heap.size w w2) := hide ((HBe.out.alloc (by omega) _).trans (hb2.mono (by simp; omega)))))
          go_roundw
          case rel => exact ⟨i + 1, true, by go_num, rfl, ⟨by omega, by rw [Hst.out], by rw [Hst.out]; exact ownsRow_setCell_below (ownsRow_setCell_below hown2 (by simp) _) (by simp) _, by rw [Hst.out, blk_set (blk_set hblk2 0 _) 1 _]; rfl, (HBL2.out.setCell (Nat.le_refl _) _).setCell (Nat.le_refl _) _, by simp [World.setCell]; omega⟩⟩
          case measure => simp [intOf]; omega
        · go_wp2_with (first | (go_at_call 21; refine (is_any _ _ _ _ _ _ hs).mono ?_; rintro e w2 ⟨rfl, hb2⟩; rw [HSP.out]; have hq1 := hb2.cell (p := ⟨wr.heap.size, 1, none⟩) (by simp); have hq2 := hb2.cell (p := ⟨wr.heap.size, 2, none⟩) (by simp); have hz2 : w.heap.size + 1 ≤ w2.heap.size := (by have := hb2.size; simp at this; omega); have hblk2 : w2.heap[w.heap.size]? = some (.cells #[.int .i64 r0, .int .i64 r1] 48 (0, 0)) := ((hb2.block _ (by simp; omega)).trans ((Below.heap_alloc wr _ _ (by omega)).trans hblk)); have cc0 := blk_cell hblk2 0; have cc1 := blk_cell hblk2 1; have ff0 := blk_free hblk2 0; have ff1 := blk_free hblk2 1; have hown2 := own_below (HO.out.alloc _) hb2; have HBL2 : Hid (Below w.heap.size w w2) := hide ((HBe.out.alloc (by omega) _).trans (hb2.mono (by simp; omega)))))
          go_roundw
          case rel => exact ⟨i + 1, true, by go_num, rfl, ⟨by omega, by rw [Hst.out], by rw [Hst.out]; exact ownsRow_setCell_below hown2 (by simp) _, by rw [Hst.out, blk_set hblk2 1 _]; rfl, HBL2.out.setCell (Nat.le_refl _) _, by simp [World.setCell]; omega⟩⟩
          case measure => simp [intOf]; omega
      · rw [sp_step_sep _ _ _ HST.out] at hst
        have Hst := hide hst; clear hst
        cases op
        · go_wp2_with (first | (go_at_call 21; refine (is_any _ _ _ _ _ _ hs).mono ?_; rintro e w2 ⟨rfl, hb2⟩; rw [HSP.out]; have hq1 := hb2.cell (p := ⟨wr.heap.size, 1, none⟩) (by simp); have hq2 := hb2.cell (p := ⟨wr.heap.size, 2, none⟩) (by simp); have hz2 : w.heap.size + 1 ≤ w2.heap.size := (by have := hb2.size; simp at this; omega); have hblk2 : w2.heap[w.heap.size]? = some (.cells #[.int .i64 r0, .int .i64 r1] 48 (0, 0)) := ((hb2.block _ (by simp; omega)).trans ((Below.heap_alloc wr _ _ (by omega)).trans hblk)); have cc0 := blk_cell hblk2 0; have cc1 := blk_cell hblk2 1; have ff0 := blk_free hblk2 0; have ff1 := blk_free hblk2 1; have hown2 := own_below (HO.out.alloc _) hb2; have HBL2 : Hid (Below w.heap.size w w2) := hide ((HBe.out.alloc (by omega) _).trans (hb2.mono (by simp; omega)))))
          go_roundw
          case rel => exact ⟨i + 1, false, by go_num, rfl, ⟨by omega, by rw [Hst.out], by rw [Hst.out]; exact hown2, by rw [Hst.out]; exact hblk2, HBL2.out, hz2⟩⟩
          case measure => simp [intOf]; omega
        · go_wp2_with (first | (go_at_call 21; refine (is_any _ _ _ _ _ _ hs).mono ?_; rintro e w2 ⟨rfl, hb2⟩; rw [HSP.out]; have hq1 := hb2.cell (p := ⟨wr.heap.size, 1, none⟩) (by simp); have hq2 := hb2.cell (p := ⟨wr.heap.size, 2, none⟩) (by simp); have hz2 : w.heap.size + 1 ≤ w2.heap.size := (by have := hb2.size; simp at this; omega); have hblk2 : w2.heap[w.heap.size]? = some (.cells #[.int .i64 r0, .int .i64 r1] 48 (0, 0)) := ((hb2.block _ (by simp; omega)).trans ((Below.heap_alloc wr _ _ (by omega)).trans hblk)); have cc0 := blk_cell hblk2 0; have cc1 := blk_cell hblk2 1; have ff0 := blk_free hblk2 0; have ff1 := blk_free hblk2 1; have hown2 := own_below (HO.out.alloc _) hb2; have HBL2 : Hid (Below w.heap.size w w2) := hide ((HBe.out.alloc (by omega) _).trans (hb2.mono (by simp; omega)))) | (at_builtin; refine wpList_append_own _ rfl (.tmp 20) (.tmp 22) 45 rfl (w.heap.size + 1) 48 i0 _ 2 16 Try.underlying45 Hi.out Hz0.out Hz1.out Hz2.out rfl (by decide) _ rows.length (cellsSp rows) rfl (hown2.alloc _) ⟨w2.heap.size, 0, none⟩ 1 1 [.int .i64 r0, .int .i64 r1] rfl rfl (cell_two_new _ _ _ _) (by intro u hu; simp at hu; rcases hu with rfl | rfl <;> rfl) (by unfold maxLen; omega) (by omega) (by simp; omega) ?_; intro v4 w4 hown4 hgrow4 hnil4))
          have hlt4 := fun k hk => (hown2.lt k hk).1
          go_roundw
          case rel =>
            refine ⟨i + 1, false, by go_num, rfl, ⟨by omega, by rw [Hst.out], ?_, ?_, ?_, ?_⟩⟩
            · rw [Hst.out]
              simp only [if_true]
              rw [cellsSp_snoc, List.length_append]
              exact hown4
            · rw [Hst.out, hgrow4.block _ (by simp; omega) (fun e => by have := hlt4 _ e.symm; omega), Below.heap_alloc _ _ _ (by omega)]
              exact hblk2
            · exact (HBL2.out.alloc (by omega) _).grown hgrow4 (by simp; omega) (fun k hk => by have := hlt4 k hk; omega)
            · have := hgrow4.size; simp at this; omega
          case measure => simp [intOf]; omega
    · obtain rfl : i = xs.length := by omega
      have hown := HR.own; have hblk := HR.blk; have hbel := HR.below; have hsz := HR.size; have hop := HR.opn_
      rw [List.take_length] at hown hblk hop hlen
      have HSp : Hid (spans (sepB s) xs = spOut (spFold (sepB s) xs)) := hide rfl
      obtain ⟨SS, hSS⟩ : ∃ SS, spans (sepB s) xs = SS := ⟨_, rfl⟩
      rw [hSS] at HSp
      have HSS := hide hSS; clear hSS
      generalize spFold (sepB s) xs = st at *
      obtain ⟨rows, ⟨r0, r1⟩, op⟩ := st
      simp only at hown hblk hop hlen
      subst hop
      have hown2 := hown
      obtain ⟨w2, rfl⟩ : ∃ w2 : World, w2 = wr := ⟨_, rfl⟩
      have cc0 := blk_cell hblk 0; have cc1 := blk_cell hblk 1
      have hrl : rows.length ≤ 1000000 := by omega
      have HBe := hide hbel
      clear hbel HR hown ha
      cases op
      · go_wp2
        go_ret
        have hsp : spans (sepB s) xs = rows := by rw [HSS.out, HSp.out]; rfl
        rw [hsp]
        exact ⟨_, rfl, own_base hown2 (by omega), HBe.out⟩
      · go_wp2_with (first | (at_builtin; refine wpList_append_own _ rfl (.tmp 34) (.tmp 36) 45 rfl (w.heap.size + 1) 48 i0 _ 2 16 Try.underlying45 Hi.out Hz0.out Hz1.out Hz2.out rfl (by decide) _ rows.length (cellsSp rows) rfl (hown2.alloc _) ⟨w2.heap.size, 0, none⟩ 1 1 [.int .i64 r0, .int .i64 r1] rfl rfl (cell_two_new _ _ _ _) (by intro u hu; simp at hu; rcases hu with rfl | rfl <;> rfl) (by unfold maxLen; omega) (by omega) (by simp; omega) ?_; intro v4 w4 hown4 hgrow4 hnil4))
        have hlt4 := fun k hk => (hown2.lt k hk).1
        go_ret
        have hsp : spans (sepB s) xs = rows ++ [(r0, r1)] := by rw [HSS.out, HSp.out]; rfl
        rw [hsp]
        refine ⟨_, rfl, own_base (base := w.heap.size + 1) ?_ (by omega), (HBe.out.alloc (by omega) _).grown hgrow4 (by simp; omega) (fun k hk => by have := hlt4 k hk; omega)⟩
        rw [cellsSp_snoc, List.length_append]
        exact hown4
end Go.Proofs.Ytniofjeefphlmaa
