/- The contract of the statements' sameSpans. -/
import Derived.Test.YtniofjeefphlmaaRefSpans
import Derived.ChangeKeysEq
namespace Go.Proofs.Ytniofjeefphlmaa
open Go.RowKit
set_option linter.unusedVariables false

theorem spGuard : Try.prog.eqGuardType Try.prog.depth 48 = false := by kernel_rfl
theorem intCells : Try.prog.cellsOf 3 = 1 := by kernel_rfl
theorem sp_eq (d : Nat) (a b x y : Int) (w : World) : (Op.equalIn (d + 2) 48 (.agg #[.int .i64 a, .int .i64 b]) (.agg #[.int .i64 x, .int .i64 y])).run Try.prog w = .ok (a == x && b == y) w := by
  obtain ⟨i, hi⟩ : ∃ i, Try.prog.info? 3 = some i := Option.isSome_iff_exists.1 (by kernel_rfl)
  rw [run_equalIn_array w (d + 1) _ _ Try.underlying48 hi, intCells, show List.range 2 = [0, 1] from rfl]
  have p0 := fun W => intPart #[Value.int .i64 a, .int .i64 b] 0 _ W rfl
  have p1 := fun W => intPart #[Value.int .i64 a, .int .i64 b] 1 _ W rfl
  have q0 := fun W => intPart #[Value.int .i64 x, .int .i64 y] 0 _ W rfl
  have q1 := fun W => intPart #[Value.int .i64 x, .int .i64 y] 1 _ W rfl
  have r1 := fun W u v => run_equalIn_int (P := Try.prog) W d _ .i64 _ u v Try.underlying3
  cases h1 : a == x <;> cases h2 : b == y <;> simp [Op.eqItems, p0, p1, q0, q1, r1, h1, h2, -beq_eq_false_iff_ne, -beq_iff_eq]
theorem sp_neq (a b x y : Int) (w : World) : (binOp .neq 48 (.agg #[.int .i64 a, .int .i64 b]) (.agg #[.int .i64 x, .int .i64 y])).run Try.prog w = .ok (.bool (!(a == x && b == y))) w := by
  rw [run_neq_struct, sp_eq 9998]; rfl

set_option maxHeartbeats 1000000 in
theorem sameSp_any (A B : Option Addr) (c d : Nat) (xs ys : List Sp) (Ba Bb : Nat) (w : World) (ha : Sps w Ba A xs) (hb : Sps w Bb B ys) (hx : xs.length ≤ 10000000) (hy : ys.length ≤ 10000000) :
    Calls Try.prog 28 #[.slice A xs.length c, .slice B ys.length d] w fun e w' => e = .returned (.bool (decide (xs = ys))) ∧ ∃ q, w' = w.drewN q := by
  by_cases hl : xs.length = ys.length
  · have Hl := hide hl
    have hne : ((ys.length : Int) != (ys.length : Int)) = false := by simp
    rw [hl]
    clear hl
    go_enter Try.func28, Try.ntmps28
    go_wp2
    go_loopw [5] (fun i wr => ∃ k q : Nat, i = .int .i64 k ∧ k ≤ ys.length ∧ Hid (xs.take k = ys.take k) ∧ wr = w.drewN q) (fun i _ => ys.length - (intOf i).toNat)
    case atStart => exact ⟨0, 0, rfl, by omega, hide (by simp), rfl⟩
    case round =>
      obtain ⟨k, q, rfl, hk, HT, rfl⟩ := hrel
      by_cases hlt : k < ys.length
      · obtain ⟨b1, o1, rfl, _, a1, a2⟩ := ha.at_ k (by have := Hl.out; omega)
        obtain ⟨b2, o2, rfl, _, c1, c2⟩ := hb.at_ k hlt
        generalize hX : xs[k]'(by have := Hl.out; omega) = X at *
        generalize hY : ys[k] = Y at *
        obtain ⟨x1, x2⟩ := X
        obtain ⟨y1, y2⟩ := Y
        have HXX := hide hX; have HYY := hide hY; clear hX hY
        simp only at a1 a2 c1 c2
        have hg := spGuard
        by_cases he : x1 = y1 ∧ x2 = y2
        · obtain ⟨rfl, rfl⟩ := he
          have hq := fun W => sp_neq x1 x2 x1 x2 W
          simp only [beq_self_eq_true, Bool.and_true, Bool.not_true] at hq
          go_wp2
          go_quiet (fail)
          go_wp2
          go_roundw
          case rel => exact ⟨k + 1, q + nq, by go_num, by omega, hide (by rw [List.take_succ_eq_append_getElem (by have := Hl.out; omega), List.take_succ_eq_append_getElem hlt, HT.out, HXX.out, HYY.out]), rfl⟩
          case measure => simp [intOf]; omega
        · have hq := fun W => sp_neq x1 x2 y1 y2 W
          have hv : (x1 == y1 && x2 == y2) = false := by
            rw [Bool.eq_false_iff]; simpa using he
          rw [hv, Bool.not_false] at hq
          go_wp2
          go_quiet (fail)
          go_wp2
          go_ret
          have hne' : ¬ xs = ys := by
            intro e; subst e
            have h := HXX.out.symm.trans HYY.out
            simp only [Prod.mk.injEq] at h
            exact he h
          exact ⟨ret_bool (by simp [hne']), q + nq, by rw [World.drewN_drewN]⟩
      · go_wp2
        go_ret
        have h := HT.out
        rw [List.take_of_length_le (by have := Hl.out; omega), List.take_of_length_le (by omega)] at h
        exact ⟨ret_bool (by simp [h]), q, rfl⟩
  · have hne : ((xs.length : Int) != (ys.length : Int)) = true := by simp; omega
    have hne' : ¬ xs = ys := by intro e; subst e; exact hl rfl
    go_enter Try.func28, Try.ntmps28
    go_wp2
    go_ret
    exact ⟨ret_bool (by simp [hne']), 0, rfl⟩
theorem sameSp_own {w : World} {base base' : Nat} {e e' : TypeId} {v v' : Value} {xs ys : List Sp} (h : w.ownsRow base e 2 v xs.length (cellsSp xs)) (h' : w.ownsRow base' e' 2 v' ys.length (cellsSp ys)) (hx : xs.length ≤ 10000000) (hy : ys.length ≤ 10000000) :
    Calls Try.prog 28 #[v, v'] w fun e w' => e = .returned (.bool (decide (xs = ys))) ∧ ∃ q, w' = w.drewN q := by
  obtain ⟨A, c, rfl, ha⟩ := Sps.of_own h
  obtain ⟨B, d, rfl, hb⟩ := Sps.of_own h'
  exact sameSp_any A B c d xs ys _ _ w ha hb hx hy
end Go.Proofs.Ytniofjeefphlmaa
