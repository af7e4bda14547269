/- The program's store: cyclic. -/
import Derived.Test.YtafpbdmggnfdnaaStoreMerge
import Derived.Test.YtafpbdmggnfdnaaMapInt
namespace Go.Proofs.Ytafpbdmggnfdnaa
open Go.RowKit Go.Maps
set_option linter.unusedVariables false

def wayCells (l : List (Nat × Nat)) : List Value := pairCells l.reverse
theorem wayCells_cons (m k : Nat) (l : List (Nat × Nat)) : wayCells ((m, k) :: l) = wayCells l ++ [.int .i64 (m : Int), .int .i64 (k : Int)] := by
  unfold wayCells; rw [List.reverse_cons, pairCells_snoc]
theorem wayCells_length (l : List (Nat × Nat)) : (wayCells l).length = l.length * 2 := by unfold wayCells; rw [pairCells_length, List.length_reverse]
theorem placeInfo : (Try.prog.info? 114).map (fun i => (i.zero, i.size, i.bytes)) = some (some (.agg #[.int .i64 0, .int .i64 0]), 2, 16) := by kernel_rfl
def argsOf (S : PS) (m : Nat) : List Nat := (S.nodes[par S.forms m]?.map (·.args)).getD []
/-- What is still to be looked at. -/
def leftOf (A : Nat → List Nat) : List (Nat × Nat) → Nat
  | [] => 0
  | (m, k) :: r => (A m).length - k + 1 + leftOf A r
structure YRel (w : World) (base : Nat) (L : Lay) (S : PS) (c : Nat → Nat) (a B : Nat) (vw : Value) (st : Nat → Nat) (way : List (Nat × Nat)) (fin : Nat → Nat) (t : Nat) (wr : World) : Prop where
  below : Below w.heap.size w wr
  map : ∃ e, MapIs wr B e st ∧ e + (2 * zeros st S.nodes.length + way.length) ≤ 2 * S.nodes.length
  own : wr.ownsRow w.heap.size 114 2 vw way.length (wayCells way)
  inv : CInv S.nodes.length c (argsOf S) a st way fin t
  low : w.heap.size ≤ B
def CyclicPost (w : World) (S : PS) (c : Nat → Nat) (a : Nat) (e : Ending) (w' : World) : Prop :=
  Below w.heap.size w w' ∧ ((e = .returned (.bool true) ∧ ¬ Acyc S.nodes c) ∨ (e = .returned (.bool false) ∧ ∃ st fin t, Searched S.nodes c (argsOf S) a st fin t))

theorem zeros_all (n : Nat) : zeros (fun _ => 0) n = n := by
  induction n with
  | zero => rfl
  | succ n ih => unfold zeros; rw [ih, if_pos rfl]
theorem way_top {w : World} {base n : Nat} {e : TypeId} {v : Value} {l : List (Nat × Nat)} {m k g cap z : Nat} (h : w.ownsRow base e 2 v n (wayCells ((m, k) :: l))) (hv : v = .slice (some ⟨g, 0, none⟩) z cap) :
    w.cell? ⟨g, l.length * 2, none⟩ = some (.int .i64 (m : Int)) ∧ w.cell? ⟨g, l.length * 2 + 1, none⟩ = some (.int .i64 (k : Int)) := by
  unfold wayCells at h
  rw [List.reverse_cons] at h
  have := pair_top h hv
  rwa [List.length_reverse] at this
theorem way_set (l : List (Nat × Nat)) (m k k' : Nat) : (wayCells ((m, k) :: l)).set (l.length * 2 + 1) (.int .i64 (k' : Int)) = wayCells ((m, k') :: l) := by
  rw [wayCells_cons, wayCells_cons, List.set_append_right _ _ (by rw [wayCells_length]; omega), wayCells_length]
  simp
theorem own_frozen {w : World} {base n : Nat} {e : TypeId} {size : Nat} {xs : List Value} {g cap : Nat} (h : w.ownsRow base e size (.slice (some ⟨g, 0, none⟩) n cap) n xs) (j : Nat) : w.frozen? ⟨g, j, none⟩ = false := h.frozenAt j
theorem zeros_done {st : Nat → Nat} {m n v : Nat} (h : st m = 1) : zeros (updN st m (v + 1)) n = zeros st n := zeros_congr _ st n fun i _ => by
  by_cases e : i = m
  · subst e; rw [updN_same]; omega
  · rw [updN_other _ _ _ _ e]
theorem leftOf_cons (A : Nat → List Nat) (m k : Nat) (r : List (Nat × Nat)) : leftOf A ((m, k) :: r) = (A m).length - k + 1 + leftOf A r := rfl
set_option maxRecDepth 100000 in
set_option maxHeartbeats 4000000 in
theorem cyclic_any {w : World} {base : Nat} {L : Lay} {S : PS} {c d : Nat → Nat} (h : St w base L S) (hi : PInv S c d) (a : Nat) (ha : a < S.nodes.length) :
    Calls Try.prog 49 #[.pointer (some ⟨L.g, 0, none⟩), .int .i64 (a : Int)] w (CyclicPost w S c a) := by
  obtain ⟨i2, ki, kz0, kz1, kz2⟩ := info_parts placeInfo
  have Ki := hide ki; have Kz0 := hide kz0; have Kz1 := hide kz1; have Kz2 := hide kz2
  clear ki kz0 kz1 kz2
  have hmm := @run_makeMap Try.prog
  have hm := h.many
  have hra := hi.root a ha
  have HF := hide (fun W (hW : St W base L S) (i : Nat) (hi' : i < S.nodes.length) => find_any hW hi.forest i hi')
  have HH := hide h
  have HI := hide hi
  obtain ⟨r, hr⟩ : ∃ r, c a = r := ⟨_, rfl⟩
  rw [hr] at hra
  have hrn := hra.1
  have Hr := hide hr
  have M0 := hide (MapIs.new w)
  clear h hi hr
  have hb0 : Below w.heap.size w (w.alloc (.map #[] 0)) := (Below.refl _ _).alloc (Nat.le_refl _) _
  go_enter Try.func49, Try.ntmps49
  go_wp2_with fail
  refine (HF.out _ (HH.out.later hb0) a ha).mono ?_
  rintro e w1 ⟨rfl, rfl⟩
  rw [Hr.out]
  go_upto_region 4 with (at_mapUpdate; refine wpList_map_set rfl (.tmp 14) (.tmp 15) (.const (.int .i64 1)) rfl w.heap.size 0 (fun _ => 0) rfl M0.out (by decide) r 1 rfl rfl (by omega) (by decide) ?_; intro w1 M1 hg1)
  have hbw1 : Below w.heap.size w w1 := hb0.grown hg1 (by simp) (fun k e => by injection e with e; omega)
  have hz1 : w.heap.size + 1 ≤ w1.heap.size := by have := hg1.size; simpa using this
  have hb2 : Below w.heap.size w (w1.alloc (.cells #[.int .i64 (r : Int), .int .i64 0] 114)) := hbw1.alloc hbw1.size _
  have HR : Hid (YRel w base L S c a w.heap.size (.slice (some ⟨w1.heap.size, 0, none⟩) 1 1) (updN (fun _ => 0) r 1) [(r, 0)] (fun _ => 0) 0 (w1.alloc (.cells #[.int .i64 (r : Int), .int .i64 0] 114))) := by
    refine hide ⟨hb2, ⟨1, M1.keep (Below.heap_alloc w1 _ _ (by omega)), ?_⟩, ?_, ?_, Nat.le_refl _⟩
    · have := zeros_set (fun _ => 0) r 1 S.nodes.length hrn rfl (by decide)
      rw [zeros_all] at this
      simp only [List.length_singleton]; omega
    · exact World.ownsRow_lit w1 #[.int .i64 (r : Int), .int .i64 0] 1 hbw1.size (by simp [maxLen]) rfl
    · have := CInv.start (n := S.nodes.length) (c := c) (A := argsOf S) (a := a) ha (fun i hi => ⟨(HI.out.root i hi).1, (HI.out.root i hi).2.2⟩)
      rw [Hr.out] at this; exact this
  clear hbw1 hb2 hg1 M1 hb0 M0 hmm hra
  go_wp2
  go_loopg [6] (zeros (updN (fun _ => 0) r 1) S.nodes.length * 1000002 + leftOf (argsOf S) [(r, 0)]) (fun gg vw wr => ∃ (st : Nat → Nat) (way : List (Nat × Nat)) (fin : Nat → Nat) (t : Nat), gg = zeros st S.nodes.length * 1000002 + leftOf (argsOf S) way ∧ YRel w base L S c a w.heap.size vw st way fin t wr)
  case atStart => exact ⟨_, _, _, _, rfl, HR.out⟩
  case round =>
    obtain ⟨st, way, fin, t, hk, R⟩ := hrel
    clear HR
    have Hk := hide hk; clear hk
    rcases way with _ | ⟨⟨m, k⟩, rest⟩
    · obtain ⟨A, cap, rfl, -, -⟩ := own_len R.own
      go_wp2
      go_ret
      exact ⟨R.below, .inr ⟨rfl, st, fin, t, R.inv.searched⟩⟩
    · have hown := R.own
      obtain ⟨g, cap, rfl, hcap⟩ := own_pos hown (by simp)
      obtain ⟨t0, t1⟩ := way_top hown rfl
      have hgl := (hown.lt g rfl).2
      have hgb := (hown.lt g rfl).1
      have hpop := hide (own_pop hown)
      rw [wayCells_cons, List.take_left' (wayCells_length rest)] at hpop
      obtain ⟨e, hmap, he⟩ := R.map
      have hmn := R.inv.ok.1
      have hlm := hmn.lt; have hrm := hmn.root; have hkl := hmn.le
      simp only [List.length_cons] at hown hcap he ⊢ t0 t1
      have hrl : rest.length ≤ 2000000 := by omega
      have hel : e ≤ 2000000 := by omega
      have hst := hide (HH.out.later R.below)
      have Fm := HI.out.forms m hlm hrm
      obtain ⟨P, hP⟩ : ∃ P, S.nodes[par S.forms m]? = some P := ⟨_, List.getElem?_eq_getElem Fm.lt⟩
      have hAm : argsOf S m = P.args := by unfold argsOf; rw [hP]; rfl
      have hPl := HH.out.few _ _ hP
      have HFm := hide (form_any hst.out HI.out.forest m hlm P (by rw [hrm]; exact hP))
      rw [hrm] at HFm
      rw [hAm] at hkl
      have HP := hide hP; have HAm := hide hAm; have HR := hide R; have Hown := hide hown; have Hmap := hide hmap
      clear hP hAm hmn R hown hrm Fm hmap
      have fl := nd_args
      go_wp2_with fail
      refine HFm.out.mono ?_
      rintro e' W1 ⟨ax, hax, rfl, hb1⟩
      have T0 : W1.cell? ⟨g, rest.length * 2, none⟩ = some (.int .i64 (m : Int)) := (hb1.cell (p := ⟨g, rest.length * 2, none⟩) hgl).trans t0
      have T1 : W1.cell? ⟨g, rest.length * 2 + 1, none⟩ = some (.int .i64 (k : Int)) := (hb1.cell (p := ⟨g, rest.length * 2 + 1, none⟩) hgl).trans t1
      have hbw : Below w.heap.size w W1 := HR.out.below.trans (hb1.mono HR.out.below.size)
      have Hst1 := hide (HH.out.later hbw)
      have Hbw := hide hbw
      have Hmap1 := hide (Hmap.out.keep (hb1.block _ Hmap.out.lt))
      have hown1 := own_keep Hown.out (fun b hb => hb1.block b (Hown.out.lt b hb).2)
      have Hown1 := hide hown1
      have Hpop1 := hide (own_keep hpop.out (fun b hb => hb1.block b (hpop.out.lt b hb).2))
      have hz : w.heap.size ≤ W1.heap.size := hbw.size
      have hg1 : g < W1.heap.size := Nat.lt_of_lt_of_le hgl hb1.size
      have hfz : W1.frozen? ⟨g, rest.length * 2 + 1, none⟩ = false := own_frozen hown1 _
      have Hax := hide hax
      clear t0 t1 hb1 hbw hown1 hax HFm hst Hmap Hown hpop
      by_cases hkk : k = P.args.length
      · subst hkk
        have k40 : ((P.args.length : Int) == (P.args.length : Int)) = true := by simp
        have hsl2 := fun W => run_slice_h (P := Try.prog) W 115 (some ⟨g, 0, none⟩) (rest.length + 1) cap Try.underlying115 .i64 ((rest.length : Int)) (by omega) (by omega)
        go_wp2_with (at_mapUpdate; refine wpList_map_set rfl (.tmp 41) (.tmp 45) (.const (.int .i64 2)) rfl w.heap.size e st rfl Hmap1.out (by omega) m 2 rfl rfl (by omega) (by decide) ?_; intro W2 M2 hg2)
        have hne : g ≠ w.heap.size := by
          intro e1
          obtain ⟨D, ⟨es, clock, hbb, _⟩, _⟩ := Hmap1.out
          rcases Hown1.out.2 with ⟨q1, _⟩ | ⟨g', _, _, q1, _, q3, _⟩
          · cases q1
          · injection q1 with q1; injection q1 with q1; injection q1 with q1; subst q1
            rw [e1, hbb] at q3; cases q3
        go_roundg (zeros (updN st m 2) S.nodes.length * 1000002 + leftOf (argsOf S) rest)
        case measure =>
          rw [Hk.out, zeros_done HR.out.inv.ok.1.st, leftOf_cons]; omega
        case rel =>
          refine ⟨updN st m 2, rest, updN fin m t, t + 1, rfl, Hbw.out.grown hg2 hz (fun j e1 => by injection e1 with e1; omega), ⟨e + 1, M2, ?_⟩, own_keep Hpop1.out (fun b hb => hg2.block b (Hpop1.out.lt b hb).2 ?_), HR.out.inv.pop (by rw [HAm.out]), Nat.le_refl _⟩
          · rw [zeros_done HR.out.inv.ok.1.st]; omega
          · have hb' : g = b := by simpa [Value.ownBlock] using hb
            intro e1; injection e1 with e1; omega
      · have k40 : ((k : Int) == (P.args.length : Int)) = false := by simp; omega
        have hklt : k < P.args.length := by omega
        obtain ⟨b1, o1, hb1, -, c1⟩ := (Hst1.out.args (par S.forms m) P ax HP.out Hax.out).1.at_ k (by simpa [cast] using hklt)
        simp only [cast, List.getElem_map] at c1
        obtain ⟨x, hx⟩ : ∃ x, P.args[k] = x := ⟨_, rfl⟩
        rw [hx] at c1
        have hxk : (argsOf S m)[k]? = some x := by rw [HAm.out, List.getElem?_eq_getElem hklt, hx]
        have hxn : x < S.nodes.length := HI.out.wf.arg_lt HP.out (k := k) (by rw [List.getElem?_eq_getElem hklt, hx])
        have hcx := HI.out.root x hxn
        have Hxk := hide hxk
        obtain ⟨y, hy⟩ : ∃ y, c x = y := ⟨_, rfl⟩
        have Hy := hide hy
        rw [hy] at hcx
        have hyn := hcx.1
        have Hcx := hide hcx
        have HB1 := hide hb1
        simp only [hb1]
        clear hx hxk hcx hy
        have hxy : y ≠ g ∨ True := .inr trivial
        go_wp2_with fail
        refine (HF.out W1 Hst1.out x hxn).mono ?_
        rintro e' W2 ⟨rfl, rfl⟩
        rw [Hy.out]
        clear hxy
        go_upto_region 13 with fail
        have hne : g ≠ w.heap.size := by
          intro e1
          obtain ⟨D, ⟨es, clock, hbb, _⟩, _⟩ := Hmap1.out
          rcases Hown1.out.2 with ⟨q1, _⟩ | ⟨g', _, _, q1, _, q3, _⟩
          · cases q1
          · injection q1 with q1; injection q1 with q1; injection q1 with q1; subst q1
            rw [e1, hbb] at q3; cases q3
        obtain ⟨W3, hW3⟩ : ∃ W3, W1.setCell ⟨g, rest.length * 2 + 1, none⟩ (.int .i64 ((k : Int) + 1)) = W3 := ⟨_, rfl⟩
        have hb3 : Below w.heap.size w W3 := by rw [← hW3]; exact Hbw.out.setCell (p := ⟨g, rest.length * 2 + 1, none⟩) hgb _
        have M3 : Hid (MapIs W3 w.heap.size e st) := hide (by rw [← hW3]; exact Hmap1.out.keep (Below.heap_setCell W1 ⟨g, rest.length * 2 + 1, none⟩ _ _ (fun e1 => hne e1.symm)))
        have own3 : Hid (W3.ownsRow w.heap.size 114 2 (.slice (some ⟨g, 0, none⟩) (rest.length + 1) cap) (rest.length + 1) (wayCells ((m, k + 1) :: rest))) := hide (by
          rw [← hW3, ← way_set rest m k (k + 1)]; exact (Hown1.out.stored (rest.length * 2 + 1) (.int .i64 ((k : Int) + 1))).1)
        have Hb3 := hide hb3
        have hz3 : w.heap.size ≤ W3.heap.size := hb3.size
        simp only [hW3]
        clear hW3 hb3 T0 T1 hfz Hmap1 Hown1 Hpop1 Hst1 Hbw c1
        have hsm := HR.out.inv.small y
        rcases (show st y = 1 ∨ st y = 2 ∨ st y = 0 by omega) with hs | hs | hs
        · have k70 : ((st y : Int) == 1) = true := by simp; omega
          have Hs := hide hs; clear hs
          go_wp2_with (at_lookup; refine wpList_map_get rfl (.tmp 67) (.tmp 68) rfl w.heap.size e st rfl M3.out y rfl (by omega) ?_)
          go_ret
          refine ⟨Hb3.out, .inl ⟨rfl, fun hac => ?_⟩⟩
          obtain ⟨q, hq⟩ := hac.measure (F := par S.forms) (As := argsOf S) HI.out.wf (fun i hi => HI.out.forms (c i) (HI.out.root i hi).1 (HI.out.root i hi).2.2) (fun i p _ hp => by unfold argsOf; rw [hp]; rfl) (fun i hi => ⟨(HI.out.root i hi).1, (HI.out.root i hi).2.2⟩)
          exact HR.out.inv.cycle Hxk.out (by rw [Hy.out]; exact Hs.out) q hq
        · have k70 : ((st y : Int) == 1) = false := by simp; omega
          have k74 : ((st y : Int) == 0) = false := by simp; omega
          have Hs := hide hs; clear hs
          go_wp2_with (first | (at_lookup; refine wpList_map_get rfl (.tmp 67) (.tmp 68) rfl w.heap.size e st rfl M3.out y rfl (by omega) ?_) | (at_lookup; refine wpList_map_get rfl (.tmp 71) (.tmp 72) rfl w.heap.size e st rfl M3.out y rfl (by omega) ?_))
          go_roundg (zeros st S.nodes.length * 1000002 + leftOf (argsOf S) ((m, k + 1) :: rest))
          case measure => rw [Hk.out, leftOf_cons, leftOf_cons, HAm.out]; omega
          case rel => exact ⟨st, (m, k + 1) :: rest, fin, t, rfl, Hb3.out, ⟨e, M3.out, he⟩, own3.out, HR.out.inv.skip Hxk.out (by rw [Hy.out]; exact Hs.out), Nat.le_refl _⟩
        · have k70 : ((st y : Int) == 1) = false := by simp; omega
          have k74 : ((st y : Int) == 0) = true := by simp; omega
          have hze := zeros_set st y 1 S.nodes.length hyn hs (by decide)
          have Hze := hide hze
          have Hs := hide hs; clear hs hze
          go_upto_region 17 with (first | (at_lookup; refine wpList_map_get rfl (.tmp 67) (.tmp 68) rfl w.heap.size e st rfl M3.out y rfl (by omega) ?_) | (at_lookup; refine wpList_map_get rfl (.tmp 71) (.tmp 72) rfl w.heap.size e st rfl M3.out y rfl (by omega) ?_) | (at_mapUpdate; refine wpList_map_set rfl (.tmp 75) (.tmp 76) (.const (.int .i64 1)) rfl w.heap.size e st rfl M3.out (by omega) y 1 rfl rfl (by omega) (by decide) ?_; intro W4 M4 hg4))
          have hb4 : Below w.heap.size w W4 := Hb3.out.grown hg4 hz3 (fun j e1 => by injection e1 with e1; omega)
          have own4 := own_keep own3.out (fun b hb => hg4.block b (own3.out.lt b hb).2 (by
            have hb' : g = b := by simpa [Value.ownBlock] using hb
            intro e1; injection e1 with e1; omega))
          have O5 := hide (own4.alloc (.cells #[.int .i64 (y : Int), .int .i64 0] 114))
          have N5 := hide (two_new W4 (.int .i64 (y : Int)) (.int .i64 0) 114)
          have E5 : Hid (∀ u ∈ [Value.int .i64 (y : Int), .int .i64 0], u.oneCell' = true) := hide (by simp [Value.oneCell'])
          have Hb5 := hide (hb4.alloc hb4.size (.cells #[.int .i64 (y : Int), .int .i64 0] 114))
          have M5 := hide (M4.keep (Below.heap_alloc W4 (.cells #[.int .i64 (y : Int), .int .i64 0] 114) _ M4.lt))
          have hz4 : w.heap.size ≤ W4.heap.size := hb4.size
          clear hb4 own4 M4 hg4 k70 k74
          go_wp2_with (at_builtin; refine wpList_append_own _ rfl (.tmp 77) (.tmp 80) 115 rfl w.heap.size 114 i2 (.agg #[.int .i64 0, .int .i64 0]) 2 16 Try.underlying115 Ki.out Kz0.out Kz1.out Kz2.out rfl (by decide) (.slice (some ⟨g, 0, none⟩) (rest.length + 1) cap) (rest.length + 1) (wayCells ((m, k + 1) :: rest)) rfl O5.out ⟨W4.heap.size, 0, none⟩ 1 1 [.int .i64 (y : Int), .int .i64 0] rfl rfl N5.out E5.out (by simp only [maxLen]; omega) (by omega) (by simp; omega) ?_; intro v6 W6 own6 grow6 nil6; clear nil6)
          go_roundg (zeros (updN st y 1) S.nodes.length * 1000002 + leftOf (argsOf S) ((y, 0) :: (m, k + 1) :: rest))
          case measure =>
            have hly : (argsOf S y).length ≤ 1000000 := by
              unfold argsOf
              cases hq : S.nodes[par S.forms y]? with
              | none => simp
              | some q => simpa using HH.out.few _ q hq
            have := Hze.out
            rw [Hk.out, leftOf_cons, leftOf_cons, leftOf_cons, HAm.out]; omega
          case rel =>
            have hI := HR.out.inv.push Hxk.out (by rw [Hy.out]; exact Hs.out) (by rw [Hy.out]; exact ⟨Hcx.out.1, Hcx.out.2.2⟩)
            rw [Hy.out] at hI
            have hgj : ∀ j, (Value.slice (some ⟨g, 0, none⟩) (rest.length + 1) cap).ownBlock = some j → w.heap.size ≤ j := by
              intro j e1
              have : g = j := by simpa [Value.ownBlock] using e1
              omega
            refine ⟨updN st y 1, (y, 0) :: (m, k + 1) :: rest, fin, t, rfl, Hb5.out.grown grow6 (by simp; omega) (fun j e1 => hgj j e1), ⟨e + 1, M5.out.keep (grow6.block _ M5.out.lt (by simp [Value.ownBlock]; exact fun e1 => hne e1.symm)), ?_⟩, ?_, hI, Nat.le_refl _⟩
            · have := Hze.out; simp only [List.length_cons]; omega
            · rw [wayCells_cons]; simp only [List.length_cons]; exact own6
end Go.Proofs.Ytafpbdmggnfdnaa
