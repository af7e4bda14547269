/- The walk of the law LexAgain. -/
import Derived.Test.YtniofjeefphlmaaLawMoved
import Derived.Test.YtniofjeefphlmaaLawMunch
namespace Go.Proofs.Ytniofjeefphlmaa
open Go.RowKit
set_option linter.unusedVariables false

/-- The kinds and words of tokens. -/
def pairsOf (l : Bs) (xs : List Tk) : List (Int × Bs) := xs.map fun t => (t.1, wordOf l t)
theorem joined_snoc (ps : List (Int × Bs)) (k : Int) (u : Bs) : joined (ps ++ [(k, u)]) = joined ps ++ (u ++ [32]) := by
  induction ps with
  | nil => simp [joined]
  | cons x ps ih => obtain ⟨a, b⟩ := x; simp [joined, ih]
theorem joined_len (l : Bs) : ∀ (xs : List Tk) (e i : Nat), Whole l e xs → e ≤ l.length → (joined (pairsOf l (xs.take i))).length ≤ 2 * (l.length - e) := by
  intro xs
  induction xs with
  | nil => intro e i h he; simp [pairsOf, joined]
  | cons x xs ih =>
    intro e i h he
    obtain ⟨f, t, hf, ht, h1, h2, h3, _, h5⟩ := h
    rcases i with _ | i
    · simp [pairsOf, joined]
    · have := ih t i h5 h3
      simp only [pairsOf, List.take_succ_cons, List.map_cons, joined, List.length_append, List.length_cons, wordOf, List.length_take, List.length_drop] at *
      rw [hf, ht]
      omega
theorem again_facts (l : Bs) (xs : List Tk) (h : ∀ t ∈ xs, WordOk t.1 (wordOf l t)) : ∃ ys : List Tk, lx (joined (pairsOf l xs)) 0 = ys ∧ ys.length = xs.length ∧
    ∀ i (hi : i < xs.length), ∃ F : Nat, ys[i]? = some (xs[i].1, (F : Int), ((F + (wordOf l xs[i]).length : Nat) : Int)) ∧ F + (wordOf l xs[i]).length ≤ (joined (pairsOf l xs)).length ∧ ((joined (pairsOf l xs)).drop F).take (wordOf l xs[i]).length = wordOf l xs[i] := by
  refine ⟨_, lx_joined (pairsOf l xs) 0 (by
    intro x hx
    obtain ⟨t, ht, rfl⟩ := List.mem_map.1 hx
    exact h t ht), by rw [again_length]; simp [pairsOf], ?_⟩
  intro i hi
  obtain ⟨F, h1, h2, h3⟩ := again_at (pairsOf l xs) [] i (by simpa [pairsOf] using hi)
  have e : (pairsOf l xs)[i]'(by simpa [pairsOf] using hi) = (xs[i].1, wordOf l xs[i]) := by simp [pairsOf]
  rw [e] at h1 h2 h3
  exact ⟨F, by simpa using h1, by simpa using h2, by simpa using h3⟩
theorem bytes_new (w : World) (t : TypeId) (u : ByteArray) (l : Bs) (hl : u.toList = l) (cap : Nat) (fr : Nat × Nat) : ∀ j x, (l.map bv)[j]? = some x → (w.alloc (.cells (bytesRow u cap) t fr)).cell? ((⟨w.heap.size, 0, none⟩ : Addr).add j) = some x := by
  intro j x hj
  have e : ((⟨w.heap.size, 0, none⟩ : Addr).add j) = ⟨w.heap.size, j, none⟩ := by
    unfold Addr.add; split
    · rename_i h; rw [h]
    · simp
  have hjl : j < u.data.size := by
    have := (List.getElem?_eq_some_iff.1 hj).1
    rw [List.length_map, ← hl, size_toList] at this
    exact this
  rw [e, World.cell?_alloc_mark, bytesRow_at u cap j hjl, ← hj, ← hl, List.getElem?_map, ByteArray.toList_eq]
  simp [Array.getElem?_eq_getElem hjl, bv]

theorem bytes_new' (w : World) (t : TypeId) (u : ByteArray) (l : Bs) (hl : u.toList = l) (cap : Nat) (fr : Nat × Nat) (g : Nat) (hg : w.heap.size = g) : ∀ j x, (l.map bv)[j]? = some x → (w.alloc (.cells (bytesRow u cap) t fr)).drew.cell? ((⟨g, 0, none⟩ : Addr).add j) = some x := by
  subst hg
  exact bytes_new w t u l hl cap fr
/-- The bytes at this address. -/
def BytesAt (w : World) (g : Nat) (l : Bs) : Prop := ∀ j (hj : j < l.length), w.cell? ((⟨g, 0, none⟩ : Addr).add j) = some (.int .u8 (l[j].toNat : Int))
theorem bytesAt_alloc (w : World) (g : Nat) (l : Bs) (o : Obj) (h : BytesAt w g l) (hg : g < w.heap.size) : BytesAt (w.alloc o) g l := by
  intro j hj
  rw [World.cell?_alloc_lt w o _ (by unfold Addr.add; split <;> exact hg)]
  exact h j hj

structure AgainRel (s : ByteArray) (w2 : World) (xs : List Tk) (v : Value) (i : Nat) (wr : World) : Prop where
  le : i ≤ xs.length
  own : wr.ownsRow w2.heap.size 5 1 v (joined (pairsOf s.toList (xs.take i))).length ((joined (pairsOf s.toList (xs.take i))).map bv)
  some_ : v ≠ .slice none 0 0
  below : Below w2.heap.size w2 wr
  fine : ∀ t ∈ xs.take i, t.1 ≠ 7

set_option maxHeartbeats 2000000 in
theorem lexAgain_walk (s : ByteArray) (w : World) (hs : s.size ≤ maxLen) :
    Calls Try.prog 6 #[.string s] w fun e w' => e = .returned (.bool true) ∧ Below w.heap.size w w' := by
  unfold maxLen at hs
  by_cases hb : 5000 < s.size
  · go_enter Try.func6, Try.ntmps6
    go_wp2_with (go_at_call 14; refine (alive_any _).mono ?_; rintro e w1 ⟨rfl, hb1⟩)
    go_ret
    exact ⟨rfl, hb1⟩
  · have hn := lx_length s.toList 0
    rw [size_toList] at hn
    have HM := hide (munch_facts s)
    have HW := hide (lx_words s.toList)
    have HWh := hide (whole_lx s.toList)
    obtain ⟨i0, hi, hz0, hz1, hz2⟩ := info_parts byteInfo
    have Hi := hide hi; have Hz0 := hide hz0; have Hz1 := hide hz1; have Hz2 := hide hz2; clear hi hz0 hz1 hz2
    have hcb := fun (W : World) (u : ByteArray) => run_bytes_of_string (P := Try.prog) W 9 29 5 u Try.underlying9 Try.underlying29 Try.underlying5
    go_enter Try.func6, Try.ntmps6
    go_wp2_with (first
      | (go_at_call 14; refine (alive_any _).mono ?_; rintro e w1 ⟨rfl, hb1⟩)
      | (go_at_call 16; refine (lex_any s _ (by omega)).mono ?_; rintro e w2 ⟨v2, rfl, hown2, hb2⟩; obtain ⟨A, c, rfl, ha⟩ := Toks.of_own hown2))
    generalize hxs : lx s.toList 0 = xs at *
    clear hxs hown2
    have hbb : Below w.heap.size w w2 := hb1.trans (hb2.mono hb1.size)
    clear hb2 hb1
    go_loopw [4, 5] (fun v vi wr => ∃ i : Nat, vi = .int .i64 i ∧ AgainRel s w2 xs v i wr) (fun _ vi _ => xs.length - (intOf vi).toNat)
    case atStart => exact ⟨0, rfl, ⟨by omega, ⟨by simp [pairsOf, joined], .inr ⟨w2.heap.size, 0, #[], rfl, Nat.le_refl _, heap_alloc_new w2 _, by simp [pairsOf, joined], by simp [maxLen], by simp, by simp [pairsOf, joined]⟩⟩, by simp, (Below.refl _ _).alloc (Nat.le_refl _) _, by simp⟩⟩
    case round =>
      obtain ⟨i, rfl, HR⟩ := hrel
      have hil := HR.le
      by_cases hlt : i < xs.length
      · have hms := HM.out _ (List.getElem_mem hlt)
        have hws := HW.out _ (List.getElem_mem hlt)
        obtain ⟨b, o, rfl, hblk, a1, a2, a3⟩ := (ha.below HR.below).at_ i hlt
        have HX := hide (rfl : xs[i] = xs[i])
        generalize hX : xs[i] = X at *
        have HXX := hide hX; clear hX HX
        obtain ⟨x1, x2, x3⟩ := X
        simp only at a1 a2 a3 hms hws
        by_cases h7 : x1 = 7
        · subst h7
          clear hms hws
          go_wp2
          go_ret
          exact ⟨rfl, hbb.trans (HR.below.mono hbb.size)⟩
        · obtain ⟨f, z, rfl, rfl, hle, hz, hk, hj⟩ := hms h7
          have h7' : (x1 == 7) = false := by simpa using h7
          have hU : ∃ U : ByteArray, wordB s f ((f : Int) + z) = U ∧ U.toList = wordOf s.toList (x1, (f : Int), ((f + z : Nat) : Int)) ∧ U.size ≤ 5000 := by
            refine ⟨_, rfl, ?_, ?_⟩
            · unfold wordB wordOf
              rw [if_neg (by omega), show ((f : Int) + z).toNat = f + z by omega, Int.toNat_natCast, extract_take]
              simp only [Int.toNat_natCast]
              rw [show (((f + z : Nat) : Int) - (f : Int)).toNat = z by omega]
            · unfold wordB
              rw [if_neg (by omega)]; simp; omega
          obtain ⟨U, hU1, hU2, hU3⟩ := hU
          have HU := hide hU1; have HU2 := hide hU2
          rw [Int.natCast_add] at a3
          clear hms hws hj hk hU1 hU2
          have hjn : (joined (pairsOf s.toList (xs.take i))).length ≤ 10000 := by
            have := joined_len s.toList xs 0 i HWh.out (Nat.zero_le _)
            rw [size_toList] at this
            omega
          have hU4 : (U ++ (⟨#[32]⟩ : ByteArray)).toList = U.toList ++ [32] := by rw [toList_app, show (ByteArray.mk #[32]).toList = [32] from ByteArray.toList_mk [32]]
          have HU4 := hide hU4; clear hU4
          have HSZ : Hid (U.toList.length = U.size) := hide (size_toList U)
          go_wp2_with (first
              | (go_at_call 18; refine (word_any _ _ _ _ _ (by omega)).mono ?_; rintro e w' ⟨rfl, rfl⟩; rw [HU.out])
              | (at_builtin; go_must (refine wpList_append_own _ rfl (.tmp 28) (.tmp 36) 29 rfl w2.heap.size 5 i0 _ 1 1 Try.underlying29 Hi.out Hz0.out Hz1.out Hz2.out rfl (by decide) _ (joined (pairsOf s.toList (xs.take i))).length ((joined (pairsOf s.toList (xs.take i))).map bv) rfl ((HR.own.alloc _).alloc _).drew ⟨wr.heap.size + 1, 0, none⟩ _ _ ((U.toList ++ [32]).map bv) rfl (by simp [HSZ.out]) (bytes_new' (tokBox wr x1 f ((f : Int) + z)) _ (U ++ ⟨#[32]⟩) _ HU4.out _ _ (wr.heap.size + 1) (by simp)) (by intro u hu; rw [List.mem_map] at hu; obtain ⟨y, _, rfl⟩ := hu; rfl) (by unfold maxLen; omega) (by omega) (by have := HR.below.size; simp; omega) ?_); intro v' w9 hown hgrow hnil))
          go_roundw
          case rel =>
            refine ⟨i + 1, by go_num, ⟨by omega, ?_, by rw [ne_eq, hnil]; simp [HR.some_], ?_, ?_⟩⟩
            · rw [List.take_succ_eq_append_getElem hlt, HXX.out]
              rw [show pairsOf s.toList (xs.take i ++ [(x1, (f : Int), ((f + z : Nat) : Int))]) = pairsOf s.toList (xs.take i) ++ [(x1, wordOf s.toList (x1, (f : Int), ((f + z : Nat) : Int)))] by simp [pairsOf], joined_snoc, ← HU2.out, List.map_append, List.length_append]
              simpa [HSZ.out] using hown
            · exact (((HR.below.alloc HR.below.size _).alloc (by have := HR.below.size; simp; omega) _).drew).grown hgrow (by have := HR.below.size; simp; omega) (fun g hg' => (HR.own.lt g hg').1)
            · intro t ht
              rw [List.take_succ_eq_append_getElem hlt, HXX.out] at ht
              rcases List.mem_append.1 ht with ht | ht
              · exact HR.fine t ht
              · simp at ht; rw [ht]; exact h7
          case measure => simp [intOf]; omega
      · obtain rfl : i = xs.length := by omega
        clear hcb
        have hform : ∃ g cap, u4 = .slice (some ⟨g, 0, none⟩) (joined (pairsOf s.toList (xs.take xs.length))).length cap := by
          rcases HR.own.2 with ⟨h, _⟩ | ⟨g, cap, cur, h, _⟩
          · exact absurd h HR.some_
          · exact ⟨g, cap, h⟩
        obtain ⟨g, cap, rfl⟩ := hform
        have hjn := joined_len s.toList xs 0 xs.length HWh.out (Nat.zero_le _)
        rw [size_toList] at hjn
        have hown := HR.own
        have hfine := HR.fine
        rw [List.take_length] at hown hjn hfine ⊢
        have hlast := (hown.lt g rfl).2
        obtain ⟨ys, hlx, hyl, hat⟩ := again_facts s.toList xs (fun t ht => (HW.out t ht (hfine t ht)).1)
        generalize joined (pairsOf s.toList xs) = J at *
        have Hown := hide hown; have Hlx := hide hlx; have Hyx := hide hyl; have Hat := hide hat; have Hfine := hide hfine
        have HRb := HR.below
        clear hown hlx hyl hat hfine HR
        have hcv := run_convert_bytes_back (P := Try.prog) wr 29 9 5 ⟨g, 0, none⟩ cap J Try.underlying29 Try.underlying5 Try.underlying9 (own_bytes Hown.out)
        have HL := hide (lex_any ⟨J.toArray⟩ wr (by rw [size_mk]; omega))
        rw [show (ByteArray.mk J.toArray).toList = J from ByteArray.toList_mk _, Hlx.out] at HL
        go_wp2_with fail
        refine HL.out.mono ?_
        rintro e w3 ⟨v3, rfl, hown3, hb3⟩
        obtain ⟨B, d, rfl, hbk⟩ := Toks.of_own hown3
        have HBt := hide (own_bytes (own_below Hown.out hb3))
        have ha3 := (ha.below HRb).below (hb3.mono HRb.size)
        have hb23 : Below w2.heap.size w2 w3 := HRb.trans (hb3.mono HRb.size)
        have hgl : g < w3.heap.size := Nat.lt_of_lt_of_le hlast hb3.size
        clear hown3 hcv HL ha
        have hne2 : ((xs.length : Int) != (xs.length : Int)) = false := by simp
        rw [Hyx.out]
        go_wp2
        go_loopw [7] (fun vi wr => ∃ i : Nat, i ≤ xs.length ∧ vi = .int .i64 i ∧ Below w3.heap.size w3 wr) (fun vi _ => xs.length - (intOf vi).toNat)
        case atStart => exact ⟨0, by omega, rfl, Below.refl _ _⟩
        case round =>
          obtain ⟨wo, rfl⟩ : ∃ wo : World, wo = w3 := ⟨_, rfl⟩
          obtain ⟨i, hi, rfl, HB⟩ := hrel
          by_cases hlt : i < xs.length
          · obtain ⟨F, h1, h2, h3⟩ := Hat.out i hlt
            have h7 := Hfine.out _ (List.getElem_mem hlt)
            obtain ⟨f, z, hf, hz, hle, hz0, _, _⟩ := HM.out _ (List.getElem_mem hlt) h7
            obtain ⟨b1, o1, rfl, hblk1, a1, a2, a3⟩ := (ha3.below (HB.mono hb23.size)).at_ i hlt
            obtain ⟨b2, o2, rfl, hblk2, c1, c2, c3⟩ := (hbk.below HB).at_ i (by rw [Hyx.out]; exact hlt)
            have e2 : ys[i]'(by rw [Hyx.out]; exact hlt) = (xs[i].1, (F : Int), ((F + (wordOf s.toList xs[i]).length : Nat) : Int)) := by
              rw [List.getElem?_eq_getElem (by rw [Hyx.out]; exact hlt)] at h1
              injection h1
            rw [e2] at c1 c2 c3
            have hA : (wordB ⟨J.toArray⟩ F ((F : Int) + (wordOf s.toList xs[i]).length)).toList = wordOf s.toList xs[i] := by
              unfold wordB
              rw [if_neg (by rw [size_mk]; omega), show ((F : Int) + (wordOf s.toList xs[i]).length).toNat = F + (wordOf s.toList xs[i]).length by omega, Int.toNat_natCast, extract_take, show (ByteArray.mk J.toArray).toList = J from ByteArray.toList_mk _]
              exact h3
            have hBw : (wordB s f ((f : Int) + z)).toList = wordOf s.toList xs[i] := by
              unfold wordB wordOf
              rw [if_neg (by omega), hf, hz, show ((f : Int) + z).toNat = f + z by omega, Int.toNat_natCast, extract_take, show (((f + z : Nat) : Int) - (f : Int)).toNat = z by omega]
            rw [hf] at a2
            rw [hz, Int.natCast_add] at a3
            simp only [Int.natCast_add] at c3
            clear h1 h3 hf hz e2
            generalize wordOf s.toList xs[i] = W at *
            generalize xs[i].1 = x1 at *
            have hneq : ((wordB ⟨J.toArray⟩ F ((F : Int) + W.length)).toList == (wordB s f ((f : Int) + z)).toList) = true := by rw [hA, hBw]; simp
            clear hA hBw
            generalize W.length = n at *
            have hb1w : b1 < wr.heap.size := Nat.lt_of_lt_of_le (Nat.lt_of_lt_of_le hblk1 hb23.size) HB.size
            have hb2w : b2 < wr.heap.size := Nat.lt_of_lt_of_le hblk2 HB.size
            have hgw : g < wr.heap.size := Nat.lt_of_lt_of_le hgl HB.size
            have hbt : BytesAt wr g J := by
              intro j hj
              rw [HB.cell (p := (⟨g, 0, none⟩ : Addr).add j) (by unfold Addr.add; split <;> exact hgl)]
              exact HBt.out j hj
            have hbd : BytesAt wr.drew g J := hbt
            have hba : ∀ o, BytesAt (wr.alloc o).drew g J := fun o => bytesAt_alloc wr g J o hbt hgw
            have hbb2 : ∀ o o', BytesAt ((wr.alloc o).alloc o').drew g J := fun o o' => bytesAt_alloc (wr.alloc o) g J o' (hba o) (by simp; exact Nat.lt_succ_of_lt hgw)
            have hcv := fun (W : World) (h : BytesAt W g J) => run_convert_bytes_back (P := Try.prog) W 29 9 5 ⟨g, 0, none⟩ cap J Try.underlying29 Try.underlying5 Try.underlying9 h
            have hxx : (x1 != x1) = false := by simp
            have HSJ := hide (show (ByteArray.mk J.toArray).size ≤ 1000000 by rw [size_mk]; omega)
            have HSs := hide (show s.size ≤ 1000000 by omega)
            go_wp2
            go_region_held3 (fun w' => w'.cell? ⟨b1, o1 + i * 3, none⟩ = some (.int .i64 x1) ∧ w'.cell? ⟨b1, o1 + i * 3 + 1, none⟩ = some (.int .i64 f) ∧ w'.cell? ⟨b1, o1 + i * 3 + 2, none⟩ = some (.int .i64 ((f : Int) + z)) ∧ w'.cell? ⟨b2, o2 + i * 3, none⟩ = some (.int .i64 x1) ∧ w'.cell? ⟨b2, o2 + i * 3 + 1, none⟩ = some (.int .i64 F) ∧ w'.cell? ⟨b2, o2 + i * 3 + 2, none⟩ = some (.int .i64 ((F : Int) + n)) ∧ BytesAt w' g J) (simp [go_sem, World.cell?_alloc_lt, a1, a2, a3, c1, c2, c3, hb1w, hb2w, hbd, hba, hbb2, Nat.lt_succ_of_lt])
              (first | (go_at_call 18; refine (word_any _ _ _ _ _ (by first | exact HSs.out | exact HSJ.out)).mono ?_; rintro e w' ⟨rfl, rfl⟩))
            go_wp2
            go_roundw
            case rel => exact ⟨i + 1, by omega, by go_num, ((HB.alloc HB.size _).alloc (by have := HB.size; simp; omega) _).drew⟩
            case measure => simp [intOf]; omega
          · go_wp2
            go_ret
            exact ⟨rfl, hbb.trans ((hb23.trans (HB.mono hb23.size)).mono hbb.size)⟩
end Go.Proofs.Ytniofjeefphlmaa
