/- The walk of the law RelexRows. -/
import Derived.Test.YtniofjeefphlmaaLawNothing
import Derived.Test.YtniofjeefphlmaaPlainRows
import Derived.Test.YtniofjeefphlmaaCopy
import Derived.IntWalk
namespace Go.Proofs.Ytniofjeefphlmaa
open Go.RowKit
set_option linter.unusedVariables false

/-- An edit: from, to, what is put in. -/
abbrev Ct := Int × Int × ByteArray
/-- The slice with this address holds these edits, below block B. -/
def Cts (w : World) (B : Nat) (A : Option Addr) (cs : List Ct) : Prop :=
  cs ≠ [] → ∃ b off, A = some ⟨b, off, none⟩ ∧ b < B ∧ ∀ k (hk : k < cs.length), w.cell? ⟨b, off + k * 3, none⟩ = some (.int .i64 cs[k].1) ∧ w.cell? ⟨b, off + k * 3 + 1, none⟩ = some (.int .i64 cs[k].2.1) ∧ w.cell? ⟨b, off + k * 3 + 2, none⟩ = some (.string cs[k].2.2)
theorem Cts.at_ {w : World} {B : Nat} {A : Option Addr} {cs : List Ct} (h : Cts w B A cs) (k : Nat) (hk : k < cs.length) : ∃ b off, A = some ⟨b, off, none⟩ ∧ b < B ∧ w.cell? ⟨b, off + k * 3, none⟩ = some (.int .i64 cs[k].1) ∧ w.cell? ⟨b, off + k * 3 + 1, none⟩ = some (.int .i64 cs[k].2.1) ∧ w.cell? ⟨b, off + k * 3 + 2, none⟩ = some (.string cs[k].2.2) := by
  obtain ⟨b, off, e, hb, hc⟩ := h (by intro e; subst e; simp at hk)
  exact ⟨b, off, e, hb, hc k hk⟩
theorem Cts.below {w w' : World} {B : Nat} {A : Option Addr} {cs : List Ct} (h : Cts w B A cs) (hb : Below B w w') : Cts w' B A cs := by
  intro hn
  obtain ⟨b, off, e, hbb, hc⟩ := h hn
  refine ⟨b, off, e, hbb, fun k hk => ?_⟩
  obtain ⟨h1, h2, h3⟩ := hc k hk
  exact ⟨(hb.cell hbb).trans h1, (hb.cell hbb).trans h2, (hb.cell hbb).trans h3⟩

theorem own_base' {w : World} {base base' : Nat} {e : TypeId} {size n : Nat} {v : Value} {xs : List Value} (h : w.ownsRow base e size v n xs) (hb : base' ≤ base) : w.ownsRow base' e size v n xs := by
  refine ⟨h.1, ?_⟩
  rcases h.2 with h1 | ⟨g, cap, cur, h1, h2, h3⟩
  · exact .inl h1
  · exact .inr ⟨g, cap, cur, h1, Nat.le_trans hb h2, h3⟩
theorem toks_cap {w : World} {base : Nat} {e : TypeId} {v : Value} {xs : List Tk} (h : w.ownsRow base e 3 v xs.length (cellsOf xs)) : ∃ A c, v = .slice A xs.length c ∧ Toks w w.heap.size A xs ∧ xs.length ≤ c := by
  obtain ⟨A, c, hv, ha⟩ := Toks.of_own h
  refine ⟨A, c, hv, ha, ?_⟩
  rcases h.2 with ⟨h1, h2⟩ | ⟨g, cap, cur, h1, _, _, h2, _⟩
  · omega
  · rw [hv] at h1; injection h1 with _ _ h1; omega
theorem Toks.pre {w : World} {B : Nat} {A : Option Addr} {xs : List Tk} (h : Toks w B A xs) (n : Nat) : Toks w B A (xs.take n) := by
  intro hn
  have hne : xs ≠ [] := by intro e; subst e; simp at hn
  obtain ⟨b, off, e, hb, hc⟩ := h hne
  refine ⟨b, off, e, hb, fun j u hu => hc j u ?_⟩
  have e2 : cellsOf xs = cellsOf (xs.take n) ++ cellsOf (xs.drop n) := by
    conv => lhs; rw [← List.take_append_drop n xs]
    unfold cellsOf; rw [List.flatMap_append]
  rw [e2, List.getElem?_append_left (List.getElem?_eq_some_iff.1 hu).1]; exact hu
theorem pre_slice (A : Option Addr) (n c F : Nat) (W : World) (h : F ≤ c) : (Instr.slice 24 (.slice A n c) none (some (.int .i64 (F : Int))) none).run Try.prog W = .ok (.slice A F c) W := by
  rw [run_slice_h (P := Try.prog) W 24 A n c Try.underlying24 .i64 (F : Int) (by omega) (by omega)]
  have hz : (sizeOf (Try.prog.elem 24)).run Try.prog W = .ok 3 W := by kernel_rfl
  rw [hz]
  simp [Result.andThen, sliced, Addr.add]

structure RowsRel (w : World) (S : ByteArray) (v : Value) (i : Nat) (wr : World) : Prop where
  size : S.size ≤ 3000 + 300 * i
  own : wr.ownsRow w.heap.size 28 3 v (lx S.toList 0).length (cellsOf (lx S.toList 0))
  below : Below w.heap.size w wr

set_option maxRecDepth 100000 in
set_option maxHeartbeats 4000000 in
theorem relexRows_walk (s : ByteArray) (A : Option Addr) (c : Nat) (cs : List Ct) (w : World) (hs : s.size ≤ maxLen) (hc : Cts w w.heap.size A cs) (hl : cs.length ≤ maxLen) (hsm : ∀ x ∈ cs, x.2.2.size ≤ maxLen) :
    Calls Try.prog 10 #[.string s, .slice A cs.length c] w fun e w' => e = .returned (.bool true) ∧ Below w.heap.size w w' := by
  unfold maxLen at hs hl
  by_cases hb : 3000 < s.size ∨ 30 < cs.length
  · rcases (show 3000 < s.size ∨ (s.size ≤ 3000 ∧ 30 < cs.length) by omega) with h1 | ⟨h1, h2⟩
    all_goals
      clear hb hc
      go_enter Try.func10, Try.ntmps10
      go_wp2_with (go_at_call 24; refine (alive9_any _).mono ?_; rintro e w1 ⟨rfl, hb1⟩)
      go_ret
      exact ⟨rfl, hb1⟩
  · have hs1 : s.size ≤ 3000 := by omega
    have hc1 : cs.length ≤ 30 := by omega
    have d1 : decide ((3000 : Int) < (s.size : Int)) = false := by simp; omega
    have d2 : decide ((30 : Int) < (cs.length : Int)) = false := by simp; omega
    have d3 : decide (30 < cs.length) = false := by simp; omega
    clear hb hs hl
    go_enter Try.func10, Try.ntmps10
    go_wp2_with fail
    refine (alive9_any _).mono ?_
    rintro e w1 ⟨rfl, hb1⟩
    go_wp2_with fail
    refine (lex_any s _ (by omega)).mono ?_
    rintro e w2 ⟨v2, rfl, hown2, hb2⟩
    have hbw2 : Below w.heap.size w w2 := hb1.trans (hb2.mono hb1.size)
    have HR0 : RowsRel w s v2 0 w2 := ⟨by omega, own_base' hown2 hb1.size, hbw2⟩
    clear hown2 hb2 hb1 hbw2
    go_wp2
    go_loopw [0, 5, 6] (fun vs v vi wr => ∃ (i : Nat) (S : ByteArray), i ≤ cs.length ∧ vs = .string S ∧ vi = .int .i64 i ∧ RowsRel w S v i wr) (fun _ _ vi _ => cs.length - (intOf vi).toNat)
    case atStart => exact ⟨0, s, by omega, rfl, rfl, HR0⟩
    case round =>
      obtain ⟨i, S, hi, rfl, rfl, HR⟩ := hrel
      clear HR0
      by_cases hlt : i < cs.length
      · obtain ⟨b, o, rfl, hblk, a1, a2, a3⟩ := (hc.below HR.below).at_ i hlt
        have hmx := hsm _ (List.getElem_mem hlt)
        obtain ⟨X, hX⟩ : ∃ X, cs[i] = X := ⟨_, rfl⟩
        rw [hX] at a1 a2 a3 hmx
        clear hX
        obtain ⟨f, t, more⟩ := X
        simp only at a1 a2 a3 hmx
        unfold maxLen at hmx
        have hSs := HR.size
        have hbw : b < wr.heap.size := Nat.lt_of_lt_of_le hblk HR.below.size
        by_cases hmore : 300 < more.size
        · go_wp2
          go_ret
          exact ⟨rfl, HR.below.alloc HR.below.size _⟩
        · obtain ⟨At, ct, rfl, hT, hTc⟩ := toks_own HR.own
          have hmore' : decide ((300 : Int) < (more.size : Int)) = false := by simp; omega
          by_cases hbad : f < 0 ∨ t < f ∨ (S.size : Int) < t
          · have HBd := hide (fun A n c W => relex_bad S A n c f t more W (by omega) hbad)
            have hgood : decide (0 ≤ f) = true → decide (f ≤ t) = true → decide (t ≤ (S.size : Int)) = false := by
              intro h1 h2; simp at h1 h2 ⊢; omega
            rcases (show decide (0 ≤ f) = false ∨ (0 ≤ f ∧ decide (f ≤ t) = false) ∨ (0 ≤ f ∧ f ≤ t ∧ decide (t ≤ (S.size : Int)) = false) by simp; omega) with k1 | ⟨k1, k2⟩ | ⟨k1, k2, k3⟩
            all_goals
              clear hgood hbad
              go_wp2_with (go_at_call 26; refine (HBd.out _ _ _ _).mono ?_; rintro e w3 ⟨rfl, rfl⟩)
              go_roundw
              case rel => exact ⟨i + 1, S, by omega, rfl, by go_num, ⟨by omega, own_below HR.own ((Below.refl _ _).alloc (Nat.le_refl _) _), HR.below.alloc HR.below.size _⟩⟩
              case measure => simp [intOf]; omega
          · obtain ⟨fn, rfl⟩ := Int.eq_ofNat_of_zero_le (show 0 ≤ f by omega)
            obtain ⟨tn, rfl⟩ := Int.eq_ofNat_of_zero_le (show 0 ≤ t by omega)
            have hft : fn ≤ tn := by omega
            have hts : tn ≤ S.size := by omega
            clear hbad
            have hE := edit_bytes S more fn tn hft hts
            have hxl := lx_length S.toList 0
            rw [size_toList] at hxl
            have hS' : (S.extract 0 fn ++ more ++ S.extract tn S.size).size ≤ 3000 + 300 * (i + 1) := by simp; omega
            have hyl := lx_length (S.extract 0 fn ++ more ++ S.extract tn S.size).toList 0
            rw [size_toList] at hyl
            have HG := hide (fun W A c B ha hB => relex_good S A c (lx S.toList 0) B fn tn more W ha hB (small_lx _ (by rw [size_toList]; omega)) (by omega) hft hts (by omega) (by omega))
            have HL := hide (fun W => lex_any (S.extract 0 fn ++ more ++ S.extract tn S.size) W (by omega))
            have HK := front_kept S.toList more.toList fn tn (by rw [size_toList]; omega) hft
            have hEL := endN_le (tn : Int) ((more.size : Int) - ((tn : Int) - fn)) (frontN fn (lx S.toList 0)) (lx S.toList 0) (lx (edit S.toList fn tn more.toList) 0)
            have hfl := frontN_le (fn : Int) (lx S.toList 0)
            rw [← hE] at HG HK hEL
            have hown := HR.own
            obtain ⟨S', hSd⟩ : ∃ S', S.extract 0 fn ++ more ++ S.extract tn S.size = S' := ⟨_, rfl⟩
            rw [hSd] at HG HL HK hEL hS' hyl
            obtain ⟨ys, hys⟩ : ∃ ys, lx S'.toList 0 = ys := ⟨_, rfl⟩
            rw [hys] at HG HL HK hEL hyl
            obtain ⟨xs, hxs⟩ : ∃ xs, lx S.toList 0 = xs := ⟨_, rfl⟩
            rw [hxs] at HG HK hEL hxl hfl hT hown
            rw [hxs]
            obtain ⟨EN, hEN⟩ : ∃ EN, endN (tn : Int) ((more.size : Int) - ((tn : Int) - fn)) (frontN fn xs) xs ys = EN := ⟨_, rfl⟩
            rw [hEN] at HG hEL
            obtain ⟨F, hF⟩ : ∃ F, frontN (fn : Int) xs = F := ⟨_, rfl⟩
            rw [hF] at HG HK hEL hfl
            have Hys := hide hys; clear hys hxs hF hEN hE
            have HSd := hide hSd; clear hSd
            obtain ⟨hFy, hK⟩ := HK
            have HKK := hide hK; clear hK
            obtain ⟨hel1, hel2⟩ := hEL
            have hct : xs.length ≤ ct := by
              obtain ⟨A9, c9, e9, _, h9⟩ := toks_cap hown
              injection e9 with _ _ e9; omega
            clear hTc
            have hbz : Below wr.heap.size wr (wr.alloc (.cells #[.int .i64 (fn : Int), .int .i64 (tn : Int), .string more] 41)) := (Below.refl _ _).alloc (Nat.le_refl _) _
            have hT2 := hT.below hbz
            have HBZ := hide hbz
            have HT2 := hide hT2
            clear hbz hT2
            go_wp2_with fail
            refine (HG.out _ _ _ _ HT2.out HBZ.out.size).mono ?_
            rintro e w3 ⟨v3, rfl, hown3, hb3⟩
            obtain ⟨A3, c3, rfl, ha3, hc3⟩ := toks_cap hown3
            have hwz := HBZ.out.size
            have hx3 := HT2.out.below (hb3.mono HBZ.out.size)
            have hbox : wr.heap.size < (wr.alloc (.cells #[.int .i64 (fn : Int), .int .i64 (tn : Int), .string more] 41)).heap.size := by simp
            have g1 : w3.cell? ⟨wr.heap.size, 0, none⟩ = some (.int .i64 (fn : Int)) := by rw [hb3.cell (p := ⟨wr.heap.size, 0, none⟩) hbox, cell_of_row _ _ _ _ _ _ (heap_alloc_new wr _)]; rfl
            have g2 : w3.cell? ⟨wr.heap.size, 1, none⟩ = some (.int .i64 (tn : Int)) := by rw [hb3.cell (p := ⟨wr.heap.size, 1, none⟩) hbox, cell_of_row _ _ _ _ _ _ (heap_alloc_new wr _)]; rfl
            have g3 : w3.cell? ⟨wr.heap.size, 2, none⟩ = some (.string more) := by rw [hb3.cell (p := ⟨wr.heap.size, 2, none⟩) hbox, cell_of_row _ _ _ _ _ _ (heap_alloc_new wr _)]; rfl
            have hb3' : Below wr.heap.size wr w3 := HBZ.out.trans (hb3.mono HBZ.out.size)
            have HB3 := hide hb3'
            have Hown3 := hide (own_base' hown3 (Nat.le_trans HR.below.size hwz))
            have HBW := hide (HR.below.trans (hb3'.mono HR.below.size))
            clear hb3 hb3' hown3 hbox hwz
            have k1 : decide ((F : Int) < 0) = false := by simp
            have k2 : decide ((EN : Int) < 0) = false := by simp
            have k3 : decide ((xs.length : Int) < (F : Int) + EN) = false := by simp; omega
            have k4 : decide ((ys.length : Int) < (F : Int) + EN) = false := by simp; omega
            have p1 := fun W => pre_slice A3 ys.length c3 F W (by omega)
            have p2 := fun W => pre_slice At xs.length ct F W (by omega)
            have HQ := hide (fun (n : Nat) => same_any A3 At c3 ct (ys.take F) (xs.take F) _ _ (w3.drewN n) (ha3.pre F) (hx3.pre F) (by simp; omega) (by simp; omega))
            rw [List.length_take, List.length_take, Nat.min_eq_left hFy, Nat.min_eq_left hfl, HKK.out] at HQ
            have hw1 : IntKind.i64.wrap ((F : Int) + EN) = (F : Int) + EN := IntWalk.i64_in _ (by omega)
            go_wp2
            go_quiet ((go_at_call 15; exact Calls.quiet_of (HQ.out _)))
            clear hw1
            go_wp2
            clear HQ p1 p2 k1 k2 k3 k4
            have hz2 : (fn : Int) ≤ S.size := by omega
            have hz3 : (tn : Int) ≤ S.size := by omega
            have hsl := fun W => run_slice_string_h (P := Try.prog) W 9 S Try.underlying9 .i64 (fn : Int) (by omega) hz2
            have hsr := fun W => run_slice_string_l (P := Try.prog) W 9 S Try.underlying9 .i64 (tn : Int) (by omega) hz3
            have hc1 := fun W => run_string_add_sum (P := Try.prog) W (S.extract 0 fn) more (by simp; omega)
            have hc2 := fun W => run_string_add_sum (P := Try.prog) W (S.extract 0 fn ++ more) (S.extract tn S.size) (by simp; omega)
            go_quiet (fail)
            go_wp2_with fail
            rw [HSd.out]
            refine (HL.out _).mono ?_
            rintro e w4 ⟨v4, rfl, hown4, hb4⟩
            have hbw4 := HBW.out.trans (((below_drewN (Below.refl w3.heap.size w3) _).trans hb4).mono HBW.out.size)
            have hown34 := own_below Hown3.out ((below_drewN (Below.refl w3.heap.size w3) _).trans hb4)
            clear hsl hsr hc1 hc2 HL HG g1 g2 g3 hx3 ha3
            go_wp2_with fail
            refine (same_own hown34 hown4 (by omega) (by omega)).mono ?_
            rintro e w5 ⟨rfl, q5, rfl⟩
            rw [decide_eq_true (rfl : ys = ys)]
            go_wp2
            go_roundw
            case rel => exact ⟨i + 1, S', by omega, rfl, by go_num, ⟨hS', by rw [Hys.out]; exact own_below hown34 (below_drewN (Below.refl _ _) _), below_drewN hbw4 _⟩⟩
            case measure => simp [intOf]; omega
      · go_wp2
        go_ret
        exact ⟨rfl, HR.below⟩
end Go.Proofs.Ytniofjeefphlmaa
