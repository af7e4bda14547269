/- alive answers true. -/
import Derived.Test.YtafpbdmggnfdnaaAlive
namespace Go.Proofs.Ytafpbdmggnfdnaa
open Go.RowKit
set_option linter.unusedVariables false

theorem only_low {M : Nat → Prop} {B : Nat} {w0 w w' : World} (hb : Below B w0 w) (ho : Only M w w') (hB : B ≤ w.heap.size) (hM : ∀ b, M b → B ≤ b) : Below B w0 w' := Only.below_trans hb ho (fun b _ h => hM b h) hB
theorem more_low {M : Nat → Prop} {B : Nat} {w w' : World} (hB : B ≤ w.heap.size) (hM : ∀ b, M b → B ≤ b) : ∀ b, more M w w' b → B ≤ b := by
  rintro b (h | h)
  · exact hM b h
  · omega
/-- A store that is new since w0. -/
structure Own (w0 : World) (g : Nat) (N : List Nd) (c : Nat → Nat) (w : World) : Prop where
  out : ∃ M, Live M g N c w ∧ ∀ b, M b → w0.heap.size ≤ b
  below : Below w0.heap.size w0 w
section
variable {w0 w : World} {g : Nat} {N : List Nd} {c : Nat → Nat}
theorem Own.keep (h : Own w0 g N c w) {w' : World} (hb : Below w.heap.size w w') : Own w0 g N c w' := by
  obtain ⟨⟨M, h1, h2⟩, h3⟩ := h
  exact ⟨⟨M, h1.below hb, h2⟩, h3.trans (hb.mono h3.size)⟩
theorem own_new (w0 w : World) (h : Below w0.heap.size w0 w) : Calls Try.prog 25 #[] w fun e w' => e = .returned (.pointer (some ⟨w.heap.size, 0, none⟩)) ∧ Own w0 w.heap.size [] (fun i => i) w' := by
  refine (live_new w).mono ?_
  rintro e w' ⟨rfl, h1, h2⟩
  exact ⟨rfl, ⟨_, h1, fun b hb => by rw [hb]; exact h.size⟩, h.trans (h2.mono h.size)⟩
theorem own_var (h : Own w0 g N c w) (hm : N.length + 1 ≤ 1000000) : Calls Try.prog 26 #[.pointer (some ⟨g, 0, none⟩)] w fun e w' => e = .returned (.int .i64 (N.length : Int)) ∧ Own w0 g (N ++ [varNd]) (addC N.length c) w' := by
  obtain ⟨⟨M, h1, h2⟩, h3⟩ := h
  refine (live_var h1 hm).mono ?_
  rintro e w' ⟨rfl, k1, k2⟩
  exact ⟨rfl, ⟨_, k1, more_low h3.size h2⟩, only_low h3 k2 h3.size h2⟩
def OwnMade (w0 : World) (g : Nat) (N : List Nd) (c : Nat → Nat) (kind : Int) (name : ByteArray) (xs : List Int) (e : Ending) (w' : World) : Prop :=
  e = .returned (.tuple #[.int .i64 (makeV N kind name xs), .int .i64 (makeErr N.length kind name xs)]) ∧ Own w0 g (makeN N kind name xs) (makeC N c kind name xs) w'
theorem own_con (h : Own w0 g N c w) (name : ByteArray) (A : Option Addr) (cap : Nat) (xs : List Int) (hx : Ints w A xs) (hl : xs.length ≤ 1000000) (hs : name.size ≤ 1000000) (hm : N.length + 1 ≤ 1000000) :
    Calls Try.prog 30 #[.pointer (some ⟨g, 0, none⟩), .string name, .slice A xs.length cap] w (OwnMade w0 g N c 2 name xs) := by
  obtain ⟨⟨M, h1, h2⟩, h3⟩ := h
  refine (live_con h1 name A cap xs hx hl hs hm).mono ?_
  rintro e w' ⟨rfl, k1, k2⟩
  exact ⟨rfl, ⟨_, k1, more_low h3.size h2⟩, only_low h3 k2 h3.size h2⟩
theorem own_pair (h : Own w0 g N c w) (A : Option Addr) (cap : Nat) (xs : List Int) (hx : Ints w A xs) (hl : xs.length ≤ 1000000) (hm : N.length + 1 ≤ 1000000) :
    Calls Try.prog 27 #[.pointer (some ⟨g, 0, none⟩), .slice A xs.length cap] w (OwnMade w0 g N c 3 ByteArray.empty xs) := by
  obtain ⟨⟨M, h1, h2⟩, h3⟩ := h
  refine (live_pair h1 A cap xs hx hl hm).mono ?_
  rintro e w' ⟨rfl, k1, k2⟩
  exact ⟨rfl, ⟨_, k1, more_low h3.size h2⟩, only_low h3 k2 h3.size h2⟩
theorem own_arrow (h : Own w0 g N c w) (a b : Int) (hm : N.length + 1 ≤ 1000000) :
    Calls Try.prog 31 #[.pointer (some ⟨g, 0, none⟩), .int .i64 a, .int .i64 b] w (OwnMade w0 g N c 4 ByteArray.empty [a, b]) := by
  obtain ⟨⟨M, h1, h2⟩, h3⟩ := h
  refine (live_arrow h1 a b hm).mono ?_
  rintro e w' ⟨rfl, k1, k2⟩
  exact ⟨rfl, ⟨_, k1, more_low h3.size h2⟩, only_low h3 k2 h3.size h2⟩
theorem own_len_ (h : Own w0 g N c w) : Calls Try.prog 32 #[.pointer (some ⟨g, 0, none⟩)] w fun e w' => e = .returned (.int .i64 (N.length : Int)) ∧ w = w' := by
  obtain ⟨⟨M, h1, h2⟩, h3⟩ := h
  exact live_len h1
theorem own_unify (h : Own w0 g N c w) (a b : Int) : Calls Try.prog 23 #[.pointer (some ⟨g, 0, none⟩), .int .i64 a, .int .i64 b] w fun e w' => ∃ err c', e = .returned (.int .i64 err) ∧ UniSaid N c a b err c' ∧ Own w0 g N c' w' := by
  obtain ⟨⟨M, h1, h2⟩, h3⟩ := h
  refine (live_unify h1 a b).mono ?_
  rintro e w' ⟨err, c', rfl, k0, k1, k2⟩
  exact ⟨err, c', rfl, k0, ⟨M, k1, h2⟩, only_low h3 k2 h3.size h2⟩
theorem own_alike (h : Own w0 g N c w) (a b : Nat) (ha : a < N.length) (hb : b < N.length) : Calls Try.prog 19 #[.pointer (some ⟨g, 0, none⟩), .int .i64 (a : Int), .int .i64 (b : Int)] w fun e w' => (∃ r : Bool, e = .returned (.bool r) ∧ (r = true ↔ AlikeIn N c a b)) ∧ Own w0 g N c w' := by
  obtain ⟨⟨M, h1, h2⟩, h3⟩ := h
  refine (live_alike h1 a b ha hb).mono ?_
  rintro e w' ⟨k0, k1, k2⟩
  exact ⟨k0, ⟨M, k1, h2⟩, only_low h3 k2 h3.size h2⟩
theorem own_size (h : Own w0 g N c w) (i : Nat) (hi : i < N.length) (T : Fo) (hT : TreeOf N c [i] T) : Calls Try.prog 13 #[.pointer (some ⟨g, 0, none⟩), .int .i64 (i : Int)] w fun e w' => e = .returned (.int .i64 (capped T.cnt : Int)) ∧ Own w0 g N c w' := by
  have h' := h
  obtain ⟨⟨M, h1, h2⟩, h3⟩ := h
  refine (live_size h1 (i : Int) (capped T.cnt : Int) (.inr ⟨by simp [allIn]; omega, T, by simpa using hT, rfl⟩)).mono ?_
  rintro e w' ⟨rfl, hb⟩
  exact ⟨rfl, h'.keep hb⟩
end

theorem OwnMade.yes {w0 w : World} {g : Nat} {N : List Nd} {kind : Int} {name : ByteArray} {xs : List Int} {e : Ending} (h : OwnMade w0 g N (fun i => i) kind name xs e w) (he : makeErr N.length kind name xs = 0) : e = .returned (.tuple #[.int .i64 (N.length : Int), .int .i64 0]) ∧ Own w0 g (N ++ [⟨kind, name, xs.map Int.toNat⟩]) (fun i => i) w := by
  unfold OwnMade makeV makeN makeC at h
  rw [he, if_pos rfl, if_pos rfl, if_pos rfl, addC_id] at h
  exact h
theorem name_ok : kindL bInt.toList = 1 ∧ kindL bList.toList = 1 := by constructor <;> kernel_rfl
set_option maxRecDepth 100000 in
set_option maxHeartbeats 4000000 in
theorem alive_any (w : World) : Calls Try.prog 9 #[] w fun e w' => e = .returned (.bool true) ∧ Below w.heap.size w w' := by
  go_enter Try.func9, Try.ntmps9
  go_wp2_with fail
  refine (own_new w w (Below.refl _ _)).mono ?_
  rintro e w1 ⟨rfl, h1⟩
  have H1 := hide h1; clear h1
  go_wp2_with fail
  refine (own_var H1.out (by decide)).mono ?_
  rintro e w2 ⟨rfl, h2⟩
  rw [show ([] : List Nd).length = 0 from rfl, addC_id] at h2
  have H2 := hide h2; clear h2
  go_wp2_with fail
  refine (own_var H2.out (by decide)).mono ?_
  rintro e w3 ⟨rfl, h3⟩
  rw [addC_id] at h3
  have H3 := hide h3; clear h3
  go_wp2_with fail
  refine (own_con H3.out bInt none 0 [] (fun h => absurd rfl h) (by decide) (by decide) (by decide)).mono ?_
  intro e w4 hp4
  obtain ⟨rfl, h4⟩ := hp4.yes (by unfold makeErr; rw [if_neg (by simp [allIn]), if_neg (by simp [name_ok.1])])
  have H4 := hide h4; clear h4 hp4
  go_wp2_with fail
  refine (own_arrow H4.out 0 0 (by decide)).mono ?_
  intro e w5 hp5
  obtain ⟨rfl, h5⟩ := hp5.yes (by decide)
  have H5 := hide h5; clear h5 hp5
  go_wp2_with fail
  refine (own_arrow H5.out 2 1 (by decide)).mono ?_
  intro e w6 hp6
  obtain ⟨rfl, h6⟩ := hp6.yes (by decide)
  have H6 := hide h6; clear h6 hp6
  go_wp2_with fail
  refine (own_con (H6.out.keep ((Below.refl _ _).alloc (Nat.le_refl _) _)) bList (some ⟨w6.heap.size, 0, none⟩) 1 [0] (ints_one w6 0 _) (by decide) (by decide) (by decide)).mono ?_
  intro e w7 hp7
  obtain ⟨rfl, h7⟩ := hp7.yes (by unfold makeErr; rw [if_neg (by decide), if_neg (by simp [name_ok.2])])
  have H7 : Hid (Own w w.heap.size N6 (fun i => i) w7) := hide h7
  clear h7 hp7
  go_wp2_with fail
  refine (own_unify H7.out 0 5).mono ?_
  rintro e w8 ⟨err, c8, rfl, hs8, h8⟩
  obtain ⟨rfl, rfl⟩ := alive_cycle hs8 (by obtain ⟨⟨M, k, _⟩, _⟩ := h8; exact k.acyc)
  have H8 := hide h8; clear h8 hs8
  go_wp2_with fail
  refine (own_unify H8.out 3 4).mono ?_
  rintro e w9 ⟨err, c9, rfl, hs9, h9⟩
  obtain ⟨rfl, h34⟩ := alive_ok hs9
  have H9 := hide h9; have H34 := hide h34; clear h9 hs9 h34
  have Hw9 : Hid (Wf N6 ∧ Closed N6 c9) := hide (by obtain ⟨⟨M, k, _⟩, _⟩ := H9.out; exact ⟨k.wf, k.closed⟩)
  go_wp2_with fail
  have hb9 : Below w9.heap.size w9 (w9.alloc (Obj.cells #[.int .i64 1, .int .i64 5] 3)) := (Below.refl _ _).alloc (Nat.le_refl _) _
  obtain ⟨⟨M, kL, kM⟩, kB⟩ := H9.out.keep hb9
  obtain ⟨T, hT⟩ := kL.tree [1, 5] (by decide)
  have hTe := alive_tree Hw9.out.1 Hw9.out.2 H34.out hT
  have htypes := live_types kL (some ⟨w9.heap.size, 0, none⟩) 2 [1, 5] (ints_two w9 1 5 _) (by decide) (by decide) T hT (fun x hx B hB => (alive_small Hw9.out.1 Hw9.out.2 H34.out (by simpa using hx) hB).1)
  have hren : ren T = .con 2 bInt .nil (.con 2 bList (.con 2 bInt .nil .nil) .nil) := by rw [hTe]; rfl
  rw [hren] at htypes
  have HB := hide (H9.out.keep hb9)
  clear kL kM kB hT hTe hren hb9
  refine htypes.mono ?_
  rintro e w10 ⟨A, cp, rfl, hat, hb10⟩
  have H10 := hide (HB.out.keep hb10)
  obtain ⟨b, off, rfl, hn1, hn2⟩ : ∃ b off, A = some ⟨b, off, none⟩ ∧ w10.cell? ⟨b, off + 2, none⟩ = some (.string bInt) ∧ w10.cell? ⟨b, off + 6, none⟩ = some (.string bList) := by
    rcases hat with h | ⟨b, off, cs, e1, -, hc, hcell⟩
    · cases h
    · obtain ⟨A1, c1, r1, rfl, -, A2, c2, r2, rfl, -, -⟩ := hc
      exact ⟨b, off, e1, hcell 2 _ rfl, hcell 6 _ rfl⟩
  clear hat hb10 htypes
  have q1 : bInt.toList = [105, 110, 116] := by kernel_rfl
  have q2 : bList.toList = [108, 105, 115, 116] := by kernel_rfl
  go_wp2_with fail
  refine (own_alike H10.out 1 2 (by decide) (by decide)).mono ?_
  rintro e w11 ⟨⟨r, rfl, hr⟩, h11⟩
  obtain rfl : r = true := hr.2 (alive_yes Hw9.out.2 H34.out)
  have H11 := hide h11; clear h11 hr
  go_wp2_with fail
  refine (own_alike H11.out 3 2 (by decide) (by decide)).mono ?_
  rintro e w12 ⟨⟨r, rfl, hr⟩, h12⟩
  obtain rfl : r = false := by
    cases r with
    | false => rfl
    | true => exact absurd (hr.1 rfl) (alive_no c9)
  have H12 := hide h12; clear h12 hr
  go_wp2_with fail
  obtain ⟨T5, hT5⟩ : ∃ T5, TreeOf N6 c9 [5] T5 := by
    obtain ⟨⟨M, k, _⟩, _⟩ := H12.out
    exact k.tree [5] (by decide)
  have hc5 := (alive_small Hw9.out.1 Hw9.out.2 H34.out (.inr rfl) hT5).2 rfl
  refine (own_size H12.out 5 (by decide) T5 hT5).mono ?_
  rw [hc5]
  rintro e w13 ⟨rfl, h13⟩
  have H13 := hide h13; clear h13
  have q3 : (capped 2 : Int) = 2 := rfl
  go_wp2_with fail
  refine (own_len_ H13.out).mono ?_
  rintro e w14 ⟨rfl, rfl⟩
  have q4 : (N6.length : Int) = 6 := rfl
  go_wp2
  go_ret
  exact ⟨rfl, H13.out.below⟩
end Go.Proofs.Ytafpbdmggnfdnaa
