/- The walk of the law LexMunch. -/
import Derived.Test.YtniofjeefphlmaaWord
import Derived.Test.YtniofjeefphlmaaRefLex
namespace Go.Proofs.Ytniofjeefphlmaa
open Go.RowKit
set_option linter.unusedVariables false

theorem munch_facts (s : ByteArray) (x : Tk) (hx : x ∈ lx s.toList 0) (h7 : x.1 ≠ 7) : ∃ f z : Nat, x.2.1 = f ∧ x.2.2 = ((f + z : Nat) : Int) ∧ f + z ≤ s.size ∧ 0 < z ∧ kindL (wordB s f ((f + z : Nat) : Int)).toList = x.1 ∧
    ∀ j, f + z < j → j ≤ s.size → kindL (s.extract f j).toList = 0 := by
  obtain ⟨hok, f, z, hf, ht, hle, htok, hz⟩ := lx_words s.toList x hx h7
  rw [size_toList] at hle
  have hk := kind_word hok
  refine ⟨f, z, hf, by rw [ht]; simp, hle, hz, ?_, ?_⟩
  · unfold wordB
    rw [if_neg (by omega), Int.toNat_natCast, Int.toNat_natCast, extract_take]
    unfold wordOf at hk
    rw [hf, ht, show ((f : Int) + z - f).toNat = z by omega, Int.toNat_natCast] at hk
    exact hk
  · intro j h1 h2
    rw [extract_to s f j (by omega)]
    exact kind_long _ _ (by rw [htok]; exact hz) (by rw [htok]; simp only; omega) (by rw [List.length_drop, size_toList]; omega)

set_option maxHeartbeats 2000000 in
theorem lexMunch_walk (s : ByteArray) (w : World) (hs : s.size ≤ maxLen) :
    Calls Try.prog 7 #[.string s] w fun e w' => e = .returned (.bool true) ∧ Below w.heap.size w w' := by
  unfold maxLen at hs
  by_cases hb : 300 < s.size
  · go_enter Try.func7, Try.ntmps7
    go_wp2_with (go_at_call 14; refine (alive_any _).mono ?_; rintro e w1 ⟨rfl, hb1⟩)
    go_ret
    exact ⟨rfl, hb1⟩
  · have hn := lx_length s.toList 0
    rw [size_toList] at hn
    have HM := hide (munch_facts s)
    go_enter Try.func7, Try.ntmps7
    go_wp2_with (first
      | (go_at_call 14; refine (alive_any _).mono ?_; rintro e w1 ⟨rfl, hb1⟩)
      | (go_at_call 16; refine (lex_any s _ (by omega)).mono ?_; rintro e w2 ⟨v2, rfl, hown2, hb2⟩; obtain ⟨A, c, rfl, ha⟩ := Toks.of_own hown2))
    generalize hxs : lx s.toList 0 = xs at *
    clear hxs hown2
    have hbb : Below w.heap.size w w2 := hb1.trans (hb2.mono hb1.size)
    clear hb2 hb1
    go_loopw [4] (fun vi wr => ∃ i : Nat, i ≤ xs.length ∧ vi = .int .i64 i ∧ Below w2.heap.size w2 wr) (fun vi _ => xs.length - (intOf vi).toNat)
    case atStart => exact ⟨0, by omega, rfl, Below.refl _ _⟩
    case round =>
      obtain ⟨i, hi, rfl, HB⟩ := hrel
      by_cases hlt : i < xs.length
      · have hms := HM.out _ (List.getElem_mem hlt)
        obtain ⟨b, o, rfl, hblk, a1, a2, a3⟩ := (ha.below HB).at_ i hlt
        generalize xs[i] = X at *
        obtain ⟨x1, x2, x3⟩ := X
        simp only at a1 a2 a3 hms
        by_cases h7 : x1 = 7
        · subst h7
          clear hms
          go_wp2
          go_roundw
          case rel => exact ⟨i + 1, by omega, by go_num, HB⟩
          case measure => simp [intOf]; omega
        · obtain ⟨f, z, rfl, rfl, hle, hz, hk, hj⟩ := hms h7
          have h7' : (x1 == 7) = false := by simpa using h7
          clear hms h7
          have hbw : b < wr.heap.size := Nat.lt_of_lt_of_le hblk HB.size
          have hwsz : (wordB s f ((f + z : Nat) : Int)).size ≤ 1000000 := by
            unfold wordB; rw [if_neg (by omega)]; simp; omega
          have HKA := hide (kind_any _ (hu := hwsz))
          rw [hk] at HKA
          have HJ := hide hj
          clear hk hj hwsz
          have hne : (x1 != x1) = false := by simp
          go_wp2
          go_region_held3 (fun w' => w'.cell? ⟨b, o + i * 3, none⟩ = some (.int .i64 x1) ∧ w'.cell? ⟨b, o + i * 3 + 1, none⟩ = some (.int .i64 f) ∧ w'.cell? ⟨b, o + i * 3 + 2, none⟩ = some (.int .i64 ((f + z : Nat) : Int))) (simp [go_sem, World.cell?_alloc_lt, a1, a2, a3, hbw])
            (first
              | (go_at_call 18; refine (word_any _ _ _ _ _ (by omega)).mono ?_; rintro e w' ⟨rfl, rfl⟩)
              | (go_at_call 19; refine (HKA.out _).mono ?_; rintro e w' ⟨rfl, rfl⟩))
          go_wp2
          have HB9 : Below w2.heap.size w2 (wr.alloc (.cells #[.int .i64 x1, .int .i64 f, .int .i64 ((f : Int) + z)] 28)).drew := (HB.alloc HB.size _).drew
          go_loop [5] (fun vj => ∃ j : Nat, f + z + 1 ≤ j ∧ j ≤ s.size + 1 ∧ vj = .int .i64 j) (fun vj => s.size + 1 - (intOf vj).toNat)
          case atStart => exact ⟨f + z + 1, Nat.le_refl _, by omega, by go_num⟩
          case round =>
            obtain ⟨j, hj1, hj2, rfl⟩ := hrel
            by_cases hc1 : j ≤ s.size
            · by_cases hc2 : j < f + z + 40
              · have HKJ := hide (kind_any (s.extract f j) (hu := by simp; omega))
                rw [HJ.out j (by omega) hc1] at HKJ
                go_wp2_with (go_at_call 19; refine (HKJ.out _).mono ?_; rintro e w' ⟨rfl, rfl⟩)
                go_round
                case rel => exact ⟨j + 1, by omega, by omega, by go_num⟩
                case measure => simp [intOf]; omega
              · go_wp2
                go_roundw
                case rel => exact ⟨i + 1, by omega, by go_num, HB9⟩
                case measure => simp [intOf]; omega
            · go_wp2
              go_roundw
              case rel => exact ⟨i + 1, by omega, by go_num, HB9⟩
              case measure => simp [intOf]; omega
      · go_wp2
        go_ret
        exact ⟨rfl, hbb.trans (HB.mono hbb.size)⟩
end Go.Proofs.Ytniofjeefphlmaa
