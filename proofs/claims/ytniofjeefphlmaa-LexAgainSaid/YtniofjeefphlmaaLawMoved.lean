/- The walk of the law LexMoved. -/
import Derived.Test.YtniofjeefphlmaaRefLex
import Derived.Test.YtniofjeefphlmaaPlainWhole
import Derived.Test.YtniofjeefphlmaaPlainMoved
import Derived.Lib.SlBytesConst
import Derived.Laws.IdiomStrings
import Derived.IntWalk
namespace Go.Proofs.Ytniofjeefphlmaa
open Go.RowKit
set_option linter.unusedVariables false

def bv (c : UInt8) : Value := .int .u8 (c.toNat : Int)
theorem toList_app (a b : ByteArray) : (a ++ b).toList = a.toList ++ b.toList := by
  rw [ByteArray.toList_eq, ByteArray.toList_eq, ByteArray.toList_eq, ByteArray.data_append, Array.toList_append]
theorem size_mk (l : Bs) : (ByteArray.mk l.toArray).size = l.length := by rw [← size_toList, ByteArray.toList_mk]
theorem size_app (a b : ByteArray) : (a ++ b).size = a.size + b.size := by rw [← size_toList, toList_app, List.length_append, size_toList, size_toList]
theorem byteInfo : (Try.prog.info? 5).map (fun i => (i.zero, i.size, i.bytes)) = some (some (.int .u8 0), 1, 1) := by kernel_rfl

/-- The bytes that the law puts together. -/
structure Chunked (w : World) (v : Value) (m : Nat) (wr : World) : Prop where
  own : wr.ownsRow w.heap.size 5 1 v (chunks m).length ((chunks m).map bv)
  some_ : v ≠ .slice none 0 0
  below : Below w.heap.size w wr

theorem own_bytes {w : World} {base : Nat} {e : TypeId} {g cap : Nat} {l : Bs} (h : w.ownsRow base e 1 (.slice (some ⟨g, 0, none⟩) l.length cap) l.length (l.map bv)) :
    ∀ j (hj : j < l.length), w.cell? ((⟨g, 0, none⟩ : Addr).add j) = some (.int .u8 (l[j].toNat : Int)) := by
  intro j hj
  exact h.cells (g := g) rfl j _ (by rw [List.getElem?_map, List.getElem?_eq_getElem hj]; rfl)
theorem sound_of (xs : List Tk) (h : 0 < xs.length) (h7 : ¬ (xs[xs.length - 1]'(by omega)).1 = 7) : Sound xs := by
  intro t ht
  rw [List.getLast?_eq_getElem?, List.getElem?_eq_getElem (by omega)] at ht
  injection ht with ht
  rw [← ht]; exact h7
theorem chunk_new (w : World) (t : TypeId) (fr : Nat × Nat) : ∀ j u, (chunk.map bv)[j]? = some u → (w.alloc (.cells #[.int .u8 10, .int .u8 32, .int .u8 40, .int .u8 42, .int .u8 32, .int .u8 108, .int .u8 101, .int .u8 116, .int .u8 32, .int .u8 41, .int .u8 32, .int .u8 42, .int .u8 41, .int .u8 32] t fr)).cell? ((⟨w.heap.size, 0, none⟩ : Addr).add j) = some u := by
  intro j u hj
  have e : ((⟨w.heap.size, 0, none⟩ : Addr).add j) = ⟨w.heap.size, j, none⟩ := by
    unfold Addr.add; split
    · rename_i h; rw [h]
    · simp
  rw [e, World.cell?_alloc_mark, ← hj]
  simp [chunk, bv]
set_option maxHeartbeats 1000000 in
theorem lexMoved_walk (s : ByteArray) (n : Int) (w : World) (hs : s.size ≤ maxLen) (hn : (Lit.int .i64 n).wf = true) :
    Calls Try.prog 5 #[.string s, .int .i64 n] w fun e w' => e = .returned (.bool true) ∧ Below w.heap.size w w' := by
  unfold maxLen at hs
  by_cases hb : 5000 < s.size ∨ n < 0 ∨ 1000 < n
  · rcases (show 5000 < s.size ∨ (s.size ≤ 5000 ∧ n < 0) ∨ (s.size ≤ 5000 ∧ 0 ≤ n ∧ 1000 < n) by omega) with h1 | ⟨h1, h2⟩ | ⟨h1, h2, h3⟩
    all_goals
      clear hb
      go_enter Try.func5, Try.ntmps5
      go_wp2_with (go_at_call 14; refine (alive_any _).mono ?_; rintro e w1 ⟨rfl, hb1⟩)
      go_ret
      exact ⟨rfl, hb1⟩
  · obtain ⟨k, rfl⟩ : ∃ k : Nat, n = k := ⟨n.toNat, by omega⟩
    clear hn
    have hk1 : k ≤ 1000 := by omega
    have hs1 : s.size ≤ 5000 := by omega
    clear hb hs
    have d1 : decide ((5000 : Int) < (s.size : Int)) = false := by simp; omega
    have d2 : decide ((k : Int) < 0) = false := by simp
    have d3 : decide ((1000 : Int) < (k : Int)) = false := by simp; omega
    obtain ⟨i0, hi, hz0, hz1, hz2⟩ := info_parts byteInfo
    have Hi := hide hi; have Hz0 := hide hz0; have Hz1 := hide hz1; have Hz2 := hide hz2; clear hi hz0 hz1 hz2
    have kc := fun (w : World) (C : Array Value) (n c : Nat) => Lib.run_convert_bytes_const (P := Try.prog) w 29 5 C n c Try.underlying29 Try.underlying5
    go_enter Try.func5, Try.ntmps5
    go_wp2_with (go_at_call 14; refine (alive_any _).mono ?_; rintro e w1 ⟨rfl, hb1⟩)
    have HB1 : Below w.heap.size w (w1.alloc (.cells #[] 5)) := hb1.alloc hb1.size _
    go_loopw [5, 6] (fun v i wr => ∃ m : Nat, m ≤ k ∧ i = .int .i64 m ∧ Chunked w v m wr) (fun _ i _ => k - (intOf i).toNat)
    case atStart =>
      exact ⟨0, by omega, rfl, ⟨⟨by simp [chunks], .inr ⟨w1.heap.size, 0, #[], rfl, hb1.size, heap_alloc_new w1 _, by simp [chunks], by simp [maxLen], by simp, by simp [chunks]⟩⟩, by simp, HB1⟩⟩
    case round =>
      obtain ⟨m, hm, rfl, HC⟩ := hrel
      have hcl := chunks_length m
      by_cases hlt : m < k
      · have hcl' : (chunks m).length ≤ 14000 := by omega
        have Hcl := hide hcl; clear hcl
        go_wp2_with (at_builtin; refine wpList_append_own _ rfl (.tmp 29) (.tmp 31) 29 rfl w.heap.size 5 i0 _ 1 1 Try.underlying29 Hi.out Hz0.out Hz1.out Hz2.out rfl (by decide) _ (chunks m).length ((chunks m).map bv) rfl (HC.own.alloc _) ⟨wr.heap.size, 0, none⟩ 14 14 (chunk.map bv) rfl rfl (chunk_new _ _ _) (by intro u hu; simp [chunk, bv] at hu; rcases hu with rfl | rfl | rfl | rfl | rfl | rfl | rfl | rfl | rfl | rfl | rfl | rfl | rfl | rfl <;> rfl) (by unfold maxLen; omega) (by omega) (by have := HC.below.size; simp; omega) ?_; intro v' w9 hown hgrow hnil)
        go_roundw
        case rel => exact ⟨m + 1, by omega, by go_num, ⟨by simpa [chunks, chunk] using hown, by rw [ne_eq, hnil]; simp, (HC.below.alloc HC.below.size _).grown hgrow (by simp; exact Nat.le_succ_of_le HC.below.size) (fun g hg' => (HC.own.lt g hg').1)⟩⟩
        case measure => simp [intOf]; omega
      · obtain rfl : m = k := by omega
        have hform : ∃ g cap, u5 = .slice (some ⟨g, 0, none⟩) (chunks m).length cap := by
          rcases HC.own.2 with ⟨h, _⟩ | ⟨g, cap, cur, h, _⟩
          · exact absurd h HC.some_
          · exact ⟨g, cap, h⟩
        obtain ⟨g, cap, rfl⟩ := hform
        have HA := hide (lx_ahead s.toList m)
        have HBd := hide (lx_behind s.toList m)
        have HMem := hide (lx_mem s.toList)
        have hlen := lx_length s.toList 0
        rw [size_toList] at hlen
        have hL : (chunks m).length ≤ 14000 := by omega
        have Hcl := hide hcl; clear hcl
        have HCo := hide HC.own
        have HCb := HC.below
        clear HC kc
        have HLx := hide (lex_any s)
        generalize hxs : lx s.toList 0 = xs at *
        have Hxs := hide hxs; clear hxs
        go_wp2_with fail
        refine (HLx.out _ (by omega)).mono ?_
        rintro e w3 ⟨v3, rfl, hown3, hb3⟩
        obtain ⟨A, c, rfl, ha⟩ := Toks.of_own hown3
        have hcv := run_convert_bytes_back (P := Try.prog) w3 29 9 5 ⟨g, 0, none⟩ cap (chunks m) Try.underlying29 Try.underlying5 Try.underlying9 (own_bytes (own_below HCo.out hb3))
        go_wp2_with fail
        have HL2 := hide (lex_any (⟨(chunks m).toArray⟩ ++ s) w3 (by rw [size_app, size_mk]; omega))
        rw [toList_app, show (ByteArray.mk (chunks m).toArray).toList = chunks m from ByteArray.toList_mk _, HA.out] at HL2
        have HCo3 := hide (own_below HCo.out hb3)
        refine HL2.out.mono ?_
        rintro e w4 ⟨v4, rfl, hown4, hb4⟩
        obtain ⟨B, d, rfl, hbk⟩ := Toks.of_own hown4
        have HCo4 := hide (own_below HCo3.out hb4)
        have ha4 := ha.below hb4
        have HBe : Hid (Below w.heap.size w w4) := hide (HCb.trans ((hb3.mono HCb.size).trans (hb4.mono (by have := HCb.size; have := hb3.size; omega))))
        have Hown3 := hide (own_below hown3 hb4)
        clear hown3 hown4 hb3 hb4 hcv HL2 HCo HCo3 ha HLx HCb HB1 hb1 HA
        have hne : ((xs.length : Int) != (xs.length : Int)) = false := by simp
        rw [← Hcl.out] at hbk
        go_wp2
        generalize hLg : (chunks m).length = L at *
        have HLg := hide hLg; clear hLg
        go_loopw [9] (fun v wr => ∃ i q : Nat, i ≤ xs.length ∧ v = .int .i64 i ∧ wr = w4.drewN q) (fun v _ => xs.length - (intOf v).toNat)
        case atStart => exact ⟨0, 0, by omega, rfl, rfl⟩
        case round =>
          obtain ⟨i, q, hi, rfl, rfl⟩ := hrel
          by_cases hlt : i < xs.length
          · obtain ⟨b1, o1, rfl, _, a1, a2, a3⟩ := ha4.at_ i hlt
            obtain ⟨b2, o2, rfl, _, c1, c2, c3⟩ := hbk.at_ i (by rw [List.length_map]; exact hlt)
            rw [List.getElem_map] at c1 c2 c3
            have hmem := HMem.out _ (List.getElem_mem hlt)
            rw [size_toList] at hmem
            generalize xs[i] = X at *
            obtain ⟨x1, x2, x3⟩ := X
            simp only [mv] at a1 a2 a3 c1 c2 c3 hmem
            obtain ⟨m1, m2, m3⟩ := hmem
            have hg := tokGuard
            have hq := fun W => tok_neq x1 (x2 + L) (x3 + L) x1 (x2 + L) (x3 + L) W
            simp only [beq_self_eq_true, Bool.and_true, Bool.not_true] at hq
            have hw2 : IntKind.i64.wrap (x2 + (L : Int)) = x2 + L := IntWalk.i64_in _ (by omega)
            have hw3 : IntKind.i64.wrap (x3 + (L : Int)) = x3 + L := IntWalk.i64_in _ (by omega)
            go_wp2
            go_quiet (fail)
            clear hw2 hw3
            go_wp2
            go_roundw
            case rel => exact ⟨i + 1, q + nq, by omega, by go_num, rfl⟩
            case measure => simp [intOf]; omega
          · obtain rfl : i = xs.length := by omega
            have hcv := run_convert_bytes_back (P := Try.prog) (w4.drewN q) 29 9 5 ⟨g, 0, none⟩ cap (chunks m) Try.underlying29 Try.underlying5 Try.underlying9 (by have h := own_below HCo4.out (below_drewN (Below.refl _ _) q); rw [← HLg.out] at h; exact own_bytes h)
            rw [HLg.out] at hcv
            have hLL : (chunks m).length ≤ 14000 := by rw [HLg.out]; exact hL
            have HL3 := hide (lex_any (s ++ ⟨#[32]⟩ ++ ⟨(chunks m).toArray⟩) (w4.drewN q) (by rw [size_app, size_app, size_mk (chunks m), show (ByteArray.mk #[32]).size = 1 from rfl]; omega))
            rw [toList_app, toList_app, show (ByteArray.mk (chunks m).toArray).toList = chunks m from ByteArray.toList_mk _, show (ByteArray.mk #[32]).toList = [32] from ByteArray.toList_mk [32], List.append_assoc, List.singleton_append] at HL3
            rcases Nat.eq_zero_or_pos xs.length with hz | hz
            · have HBS := hide (HBd.out (by intro t ht; rw [List.eq_nil_of_length_eq_zero hz] at ht; simp at ht))
              rw [HBS.out] at HL3
              have hz' : ¬ ((0 : Int) < (xs.length : Int)) := by omega
              have Hz := hide hz; clear hz
              go_wp2_with fail
              refine HL3.out.mono ?_
              rintro e w5 ⟨v5, rfl, hown5, hb5⟩
              have hb5' : Below w4.heap.size w4 w5 := (below_drewN (Below.refl _ _) q).trans hb5
              go_wp2_with fail
              refine (same_own hown5 (own_below Hown3.out hb5') (by omega) (by omega)).mono ?_
              rintro e w6 ⟨rfl, q2, rfl⟩
              go_wp2
              go_ret
              exact ⟨ret_bool (by simp), below_drewN (HBe.out.trans (hb5'.mono HBe.out.size)) _⟩
            · obtain ⟨b1, o1, rfl, _, a1, a2, a3⟩ := ha4.at_ (xs.length - 1) (by omega)
              have HSo : Hid (¬ xs[xs.length - 1].1 = 7 → Sound xs) := hide (sound_of xs hz)
              clear a2 a3
              generalize xs[xs.length - 1].1 = x1 at *
              have hp1 : (0 : Int) < (xs.length : Int) := by omega
              by_cases h7 : x1 = 7
              · subst h7
                go_wp2
                go_ret
                exact ⟨rfl, below_drewN HBe.out _⟩
              · have h7' : (x1 == 7) = false := by simpa using h7
                have HBS := hide (HBd.out (HSo.out h7))
                rw [HBS.out] at HL3
                go_wp2_with fail
                refine HL3.out.mono ?_
                rintro e w5 ⟨v5, rfl, hown5, hb5⟩
                have hb5' : Below w4.heap.size w4 w5 := (below_drewN (Below.refl _ _) q).trans hb5
                go_wp2_with fail
                refine (same_own hown5 (own_below Hown3.out hb5') (by omega) (by omega)).mono ?_
                rintro e w6 ⟨rfl, q2, rfl⟩
                go_wp2
                go_ret
                exact ⟨ret_bool (by simp), below_drewN (HBe.out.trans (hb5'.mono HBe.out.size)) _⟩
end Go.Proofs.Ytniofjeefphlmaa
