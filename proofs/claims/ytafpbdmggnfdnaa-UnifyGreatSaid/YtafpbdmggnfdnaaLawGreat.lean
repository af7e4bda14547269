/- The walk of the law UnifyGreat. -/
import Derived.Test.YtafpbdmggnfdnaaGreat
namespace Go.Proofs.Ytafpbdmggnfdnaa
open Go.RowKit
set_option linter.unusedVariables false

theorem great_type_yes {w0 w : World} {g K : Nat} {c : Nat → Nat} (h : Own w0 g (gN K) c w) (hr : Resp (gN K).length c (fun i => i / 2)) (A : Option Addr) (hA : Nats w A [2 * K]) (hK : gsz K ≤ 300) :
    Calls Try.prog 15 #[.pointer (some ⟨g, 0, none⟩), .slice A 1 1] w fun e w' => (∃ B cp, e = .returned (.tuple #[.slice B 1 cp, .int .i64 0])) ∧ Own w0 g (gN K) c w' := by
  have h' := h
  obtain ⟨⟨M, h1, h2⟩, h3⟩ := h
  have hlen := gN_len K
  have hlt : ∀ i ∈ [2 * K], i < (gN K).length := by simp; omega
  obtain ⟨T, hT⟩ := h1.tree [2 * K] hlt
  refine (live_types h1 A 1 [2 * K] hA hlt (by simp) T hT ?_).mono ?_
  · intro x hx B hB
    obtain rfl : x = 2 * K := by simpa using hx
    have := great_tree h1.wf h1.closed hr (Nat.le_refl K) (by omega) hB
    unfold gsz capped at hK
    split at hK <;> omega
  · rintro e w' ⟨B, cp, rfl, _, hb⟩
    exact ⟨⟨B, cp, rfl⟩, h'.keep hb⟩
theorem great_type_no {w0 w : World} {g K : Nat} {c : Nat → Nat} (h : Own w0 g (gN K) c w) (hr : Resp (gN K).length c (fun i => i / 2)) (A : Option Addr) (hA : Nats w A [2 * K]) (hK : ¬ gsz K ≤ 300) :
    Calls Try.prog 15 #[.pointer (some ⟨g, 0, none⟩), .slice A 1 1] w fun e w' => e = .returned (.tuple #[.slice none 0 0, .int .i64 120]) ∧ Own w0 g (gN K) c w' := by
  have h' := h
  obtain ⟨⟨M, h1, h2⟩, h3⟩ := h
  have hlen := gN_len K
  have hlt : ∀ i ∈ [2 * K], i < (gN K).length := by simp; omega
  obtain ⟨T, hT⟩ := h1.tree [2 * K] hlt
  refine (live_types_big h1 A 1 [2 * K] hA hlt (by simp) ?_).mono ?_
  · refine ⟨2 * K, by simp, T, hT, ?_⟩
    have := great_tree h1.wf h1.closed hr (Nat.le_refl K) (by omega) hT
    unfold gsz capped at hK
    split at hK <;> omega
  · rintro e w' ⟨rfl, hb⟩
    exact ⟨rfl, h'.keep hb⟩
theorem great_pair {w0 w : World} {g : Nat} {N : List Nd} (h : Own w0 g N (fun i => i) w) (x : Nat) (hx : x < N.length) (hm : N.length + 1 ≤ 1000000) (A : Option Addr) (hA : Ints w A [(x : Int), (x : Int)]) :
    Calls Try.prog 27 #[.pointer (some ⟨g, 0, none⟩), .slice A 2 2] w fun e w' => e = .returned (.tuple #[.int .i64 (N.length : Int), .int .i64 0]) ∧ Own w0 g (N ++ [⟨3, ByteArray.empty, [x, x]⟩]) (fun i => i) w' := by
  refine (own_pair h A 2 [(x : Int), (x : Int)] hA (by simp) hm).mono ?_
  intro e w' hp
  have := hp.yes (by
    unfold makeErr
    rw [if_neg (by simp [allIn]; omega), if_neg (by rintro (⟨h, _⟩ | ⟨_, h⟩); exact absurd h (by decide); simp at h)])
  simpa using this
theorem own_facts {w0 w : World} {g : Nat} {N : List Nd} {c : Nat → Nat} (h : Own w0 g N c w) : Wf N ∧ Closed N c := by
  obtain ⟨⟨M, k, _⟩, _⟩ := h; exact ⟨k.wf, k.closed⟩
theorem great_size {w0 w : World} {g K : Nat} (h : Own w0 g (gN K) (fun i => i) w) :
    Calls Try.prog 13 #[.pointer (some ⟨g, 0, none⟩), .int .i64 ((2 * K : Nat) : Int)] w fun e w' => e = .returned (.int .i64 (gsz K : Int)) ∧ Own w0 g (gN K) (fun i => i) w' := by
  have hlen := gN_len K
  obtain ⟨T, hT⟩ : ∃ T, TreeOf (gN K) (fun i => i) [2 * K] T := by
    obtain ⟨⟨M, k, _⟩, _⟩ := h
    exact k.tree [2 * K] (by simp; omega)
  have := great_tree (own_facts h).1 (own_facts h).2 (fun i j _ _ e => by have e' : i = j := e; rw [e']) (Nat.le_refl K) (by omega) hT
  have hc := own_size h (2 * K) (by omega) T hT
  rw [this] at hc
  exact hc
theorem Own.of_below {w0 w : World} {g : Nat} {N : List Nd} {c : Nat → Nat} (h : Own w0 g N c w) (o : Obj) : Own w0 g N c (w.alloc o) := h.keep ((Below.refl _ _).alloc (Nat.le_refl _) _)

theorem run_eq_bool (w : World) (a b : Bool) : (binOp .eql 4 (.bool a) (.bool b)).run Try.prog w = .ok (.bool (a == b)) w := by cases a <;> cases b <;> kernel_rfl
set_option maxRecDepth 100000 in
set_option maxHeartbeats 4000000 in
theorem unifyGreat_walk (n : Int) (w : World) (hn : (Lit.int .i64 n).wf = true) :
    Calls Try.prog 6 #[.int .i64 n] w fun e w' => e = .returned (.bool true) ∧ Below w.heap.size w w' := by
  by_cases hb : n < 0 ∨ 500 < n
  · rcases (show n < 0 ∨ (0 ≤ n ∧ 500 < n) by omega) with h1 | ⟨h1, h2⟩
    all_goals
      clear hb
      go_enter Try.func6, Try.ntmps6
      go_wp2_with fail
      refine (alive_any _).mono ?_
      rintro e w1 ⟨rfl, hb1⟩
      go_wp2
      go_ret
      exact ⟨rfl, hb1⟩
  · obtain ⟨k, rfl⟩ : ∃ k : Nat, n = k := ⟨n.toNat, by omega⟩
    have hk : k ≤ 500 := by omega
    clear hb hn
    have qb := run_eq_bool
    have ql : ∀ (w : World) (B : Option Addr) (n c : Nat), (Builtin.len_ #[34] 3 #[.slice B n c]).run Try.prog w = .ok (.int .i64 (n : Int)) w := fun w B n c => by kernel_rfl
    have d1 : decide ((k : Int) < 0) = false := by simp
    have d2 : decide ((500 : Int) < (k : Int)) = false := by simp; omega
    go_enter Try.func6, Try.ntmps6
    go_wp2_with fail
    refine (alive_any _).mono ?_
    rintro e w1 ⟨rfl, hb1⟩
    go_wp2_with fail
    refine (own_new w w1 hb1).mono ?_
    rintro e w2 ⟨rfl, h2⟩
    have H2 := hide h2; clear h2 hb1
    go_wp2_with fail
    refine (own_var H2.out (by decide)).mono ?_
    rintro e w3 ⟨rfl, h3⟩
    rw [show ([] : List Nd).length = 0 from rfl, addC_id] at h3
    have H3 := hide h3; clear h3
    go_wp2_with fail
    refine (own_var H3.out (by decide)).mono ?_
    rintro e w4 ⟨rfl, h4⟩
    rw [addC_id] at h4
    have H4 : Hid (Own w w1.heap.size (gN 0) (fun i => i) w4) := hide h4
    clear h4 H2 H3
    generalize w1.heap.size = g at *
    go_wp2
    go_loopw [4, 5, 6, 7] (fun vx vy vz vi wr => ∃ i : Nat, i ≤ k ∧ vi = .int .i64 i ∧ vx = .int .i64 ((2 * i : Nat) : Int) ∧ vy = .int .i64 ((2 * i + 1 : Nat) : Int) ∧ vz = .int .i64 (gsz i : Int) ∧ Own w g (gN i) (fun i => i) wr) (fun _ _ _ vi _ => k - (intOf vi).toNat)
    case atStart => exact ⟨0, by omega, rfl, rfl, rfl, rfl, H4.out⟩
    case round =>
      clear H4
      obtain ⟨i, hi, rfl, rfl, rfl, rfl, h5⟩ := hrel
      have hlen := gN_len i
      have hle := gsz_le i
      have H5 := hide h5; clear h5
      by_cases hlt : i < k
      · have HP := hide (fun W A hA => great_pair (H5.out.keep (w' := W) hA) (2 * i) (by omega) (by omega) A)
        have Hlen := hide hlen; clear hlen
        go_wp2_with fail
        refine (HP.out _ _ ((Below.refl _ _).alloc (Nat.le_refl _) _) (ints_two _ _ _ _)).mono ?_
        rintro e w5 ⟨rfl, h6⟩
        rw [Hlen.out]
        have H6 := hide h6; clear h6 HP
        have HP := hide (fun W A hA => great_pair (H6.out.keep (w' := W) hA) (2 * i + 1) (by simp; have := Hlen.out; omega) (by simp; have := Hlen.out; omega) A)
        go_wp2_with fail
        refine (HP.out _ _ ((Below.refl _ _).alloc (Nat.le_refl _) _) (ints_two _ _ _ _)).mono ?_
        rintro e w6 ⟨rfl, h7⟩
        have H7 : Hid (Own w g (gN (i + 1)) (fun i => i) w6) := hide h7
        rw [List.length_append, List.length_singleton, Hlen.out]
        clear h7 HP H6
        have HS := hide (great_size H7.out)
        rw [show 2 * (i + 1) = 2 * i + 2 by omega] at HS
        have hz := gsz_succ i
        by_cases hbig : 301 < 2 * gsz i + 1
        · rw [if_pos hbig] at hz
          rw [hz] at HS
          have Hz := hide hz; clear hz
          go_wp2_with fail
          refine HS.out.mono ?_
          rintro e w7 ⟨rfl, h8⟩
          have H8 := hide h8; clear h8
          go_wp2
          go_roundw
          case rel => exact ⟨i + 1, by omega, by go_num, by congr 1, by congr 1, by rw [Hz.out]; rfl, H8.out⟩
          case measure => simp [intOf]; omega
        · rw [if_neg hbig] at hz
          rw [hz] at HS
          have Hz := hide hz; clear hz
          go_wp2_with fail
          refine HS.out.mono ?_
          rintro e w7 ⟨rfl, h8⟩
          have H8 := hide h8; clear h8
          go_wp2
          go_roundw
          case rel => exact ⟨i + 1, by omega, by go_num, by congr 1, by congr 1, by rw [Hz.out]; go_num, H8.out⟩
          case measure => simp [intOf]; omega
      · obtain rfl : i = k := by omega
        have HA := hide (own_alike H5.out (2 * i) (2 * i + 1) (by omega) (by omega))
        have HU := hide (fun W (h : Own w g (gN i) (fun i => i) W) => own_unify h ((2 * i : Nat) : Int) ((2 * i + 1 : Nat) : Int))
        have HA2 := hide (fun W c (h : Own w g (gN i) c W) => own_alike h (2 * i) (2 * i + 1) (by omega) (by omega))
        have hno := great_no i
        have Hno := hide hno; have Hlen := hide hlen
        clear hno hlen
        by_cases hpos : 0 < i
        · go_wp2_with fail
          refine HA.out.mono ?_
          rintro e w5 ⟨⟨r, rfl, hr⟩, h6⟩
          obtain rfl : r = false := by
            cases r with
            | false => rfl
            | true => exact absurd (hr.1 rfl) Hno.out
          have H6 := hide h6; clear h6 hr
          go_wp2_with fail
          refine (HU.out _ H6.out).mono ?_
          rintro e w6 ⟨err, c7, rfl, hs7, h7⟩
          obtain ⟨rfl, hab, hresp⟩ := great_ok hs7
          have H7 := hide h7; have Hab := hide hab; have Hresp := hide hresp; clear h7 hs7 hab hresp
          by_cases hsz : gsz i ≤ 300
          · have d3 : decide ((gsz i : Int) ≤ 300) = true := by simp; omega
            go_wp2_with fail
            refine (great_type_yes (H7.out.of_below _) Hresp.out _ (ints_one _ _ _) hsz).mono ?_
            rintro e w7 ⟨⟨B, cp, rfl⟩, h8⟩
            have H8 := hide h8; clear h8
            go_wp2_with fail
            refine (HA2.out _ _ H8.out).mono ?_
            rintro e w8 ⟨⟨r, rfl, hr⟩, h9⟩
            obtain rfl : r = true := hr.2 (great_yes (own_facts H8.out).2 Hab.out)
            go_wp2
            go_ret
            exact ⟨rfl, h9.below⟩
          · have d3 : decide ((gsz i : Int) ≤ 300) = false := by simp; omega
            go_wp2_with fail
            refine (great_type_no (H7.out.of_below _) Hresp.out _ (ints_one _ _ _) hsz).mono ?_
            rintro e w7 ⟨rfl, h8⟩
            have H8 := hide h8; clear h8
            go_wp2_with fail
            refine (HA2.out _ _ H8.out).mono ?_
            rintro e w8 ⟨⟨r, rfl, hr⟩, h9⟩
            obtain rfl : r = true := hr.2 (great_yes (own_facts H8.out).2 Hab.out)
            go_wp2
            go_ret
            exact ⟨rfl, h9.below⟩
        · obtain rfl : i = 0 := by omega
          go_wp2_with fail
          refine (HU.out _ H5.out).mono ?_
          rintro e w6 ⟨err, c7, rfl, hs7, h7⟩
          obtain ⟨rfl, hab, hresp⟩ := great_ok hs7
          have H7 := hide h7; have Hab := hide hab; have Hresp := hide hresp; clear h7 hs7 hab hresp
          have d3 : decide ((gsz 0 : Int) ≤ 300) = true := by decide
          go_wp2_with fail
          refine (great_type_yes (H7.out.of_below _) Hresp.out _ (ints_one _ _ _) (by decide)).mono ?_
          rintro e w7 ⟨⟨B, cp, rfl⟩, h8⟩
          have H8 := hide h8; clear h8
          go_wp2_with fail
          refine (HA2.out _ _ H8.out).mono ?_
          rintro e w8 ⟨⟨r, rfl, hr⟩, h9⟩
          obtain rfl : r = true := hr.2 (great_yes (own_facts H8.out).2 Hab.out)
          go_wp2
          go_ret
          exact ⟨rfl, h9.below⟩
end Go.Proofs.Ytafpbdmggnfdnaa
