/- Part 13 of the proof of UnifyCopies: what follows was kept as these texts: RefLive. -/
import Derived.Test.YtafpbdmggnfdnaaUnifyCopiesPt1
import Derived.Test.YtafpbdmggnfdnaaUnifyCopiesPt2
import Derived.Test.YtafpbdmggnfdnaaUnifyCopiesPt3
import Derived.Test.YtafpbdmggnfdnaaUnifyCopiesPt4
import Derived.Test.YtafpbdmggnfdnaaUnifyCopiesPt5
import Derived.Test.YtafpbdmggnfdnaaUnifyCopiesPt6
import Derived.Test.YtafpbdmggnfdnaaUnifyCopiesPt7
import Derived.Test.YtafpbdmggnfdnaaUnifyCopiesPt8
import Derived.Test.YtafpbdmggnfdnaaUnifyCopiesPt9
import Derived.Test.YtafpbdmggnfdnaaUnifyCopiesPt10
import Derived.Test.YtafpbdmggnfdnaaUnifyCopiesPt11
import Derived.Test.YtafpbdmggnfdnaaUnifyCopiesPt12
/- Both stores, with all that is their own in memory: what each call answers and what it leaves. -/
namespace Go.Proofs.Ytafpbdmggnfdnaa
open Go.RowKit
set_option linter.unusedVariables false

/-- The slice v is a store of the reference's of these nodes with these classes; all that it may write or must read lies in M. -/
structure RLive (M : Nat → Prop) (v : Value) (N : List Nd) (c : Nat → Nat) (w : World) : Prop where
  out : ∃ ad R d, RSt w v ad R ∧ R.nodes = N ∧ ROk R c d ∧ (∀ b, v.ownBlock = some b → M b) ∧ ∀ (i : Nat) (a : Option Addr × Nat), ad[i]? = some a → ∀ x, a.1 = some x → M x.block
  lt : ∀ b, M b → b < w.heap.size
section
variable {M F : Nat → Prop} {v : Value} {N : List Nd} {c : Nat → Nat} {w w' : World}
theorem RLive.keep (h : RLive M v N c w) (ho : Only F w w') (hF : ∀ b, F b → ¬ M b) : RLive M v N c w' := by
  obtain ⟨⟨ad, R, d, h2, h3, h4, h5, h6⟩, h7⟩ := h
  exact ⟨⟨ad, R, d, h2.only ho (fun b hb hf => hF b hf (h5 b hb)) (fun i a ha x hx hf => hF _ hf (h6 i a ha x hx)), h3, h4, h5, h6⟩, fun b hb => Nat.lt_of_lt_of_le (h7 b hb) ho.size⟩
theorem RLive.below (h : RLive M v N c w) (hb : Below w.heap.size w w') : RLive M v N c w' := h.keep (Only.of_below hb (fun _ => False)) (fun _ hf => hf.elim)
theorem RLive.more (h : RLive M v N c w) (hb : Below w.heap.size w w') : RLive (Go.Proofs.Ytafpbdmggnfdnaa.more M w w') v N c w' := by
  obtain ⟨⟨ad, R, d, h2, h3, h4, h5, h6⟩, h7⟩ := h
  refine ⟨⟨ad, R, d, h2.later hb, h3, h4, fun b hb' => .inl (h5 b hb'), fun i a ha x hx => .inl (h6 i a ha x hx)⟩, fun b hb' => ?_⟩
  rcases hb' with hb' | hb'
  · exact Nat.lt_of_lt_of_le (h7 b hb') hb.size
  · exact hb'.2
theorem RLive.slice (h : RLive M v N c w) : ∃ A cap, v = .slice A N.length cap := by
  obtain ⟨⟨ad, R, d, h2, rfl, h4, h5, h6⟩, h7⟩ := h
  obtain ⟨A, cap, e, -, -⟩ := own_len h2.own
  exact ⟨A, cap, e⟩
theorem RLive.roots (h : RLive M v N c w) (i : Nat) (hi : i < N.length) : c i < N.length ∧ c (c i) = c i := by
  obtain ⟨⟨ad, R, d, h2, rfl, h4, h5, h6⟩, h7⟩ := h
  exact h4.roots i hi
theorem RLive.forms (h : RLive M v N c w) (i : Nat) (hi : i < N.length) : Form N c (c i) (c i) := by
  obtain ⟨⟨ad, R, d, h2, rfl, h4, h5, h6⟩, h7⟩ := h
  exact h4.forms i hi
theorem rlive_new (w : World) : RLive (fun _ => False) (.slice none 0 0) [] (fun i => i) w :=
  ⟨⟨[], ⟨[], []⟩, _, ⟨World.ownsRow_nil _ _ _ _, rfl, rfl, fun i p a hi => by simp at hi, by simp, fun i p hi => by simp at hi⟩, rfl, ROk.new, (fun b hb => by cases hb), fun i a ha => by simp at ha⟩, fun b hb => hb.elim⟩
theorem RAdded.live {ad : List (Option Addr × Nat)} {R : RS} {d : Nat → Nat} {p : Nd} {v' : Value} (h7 : ∀ b, M b → b < w.heap.size) (h5 : ∀ b, v.ownBlock = some b → M b) (h6 : ∀ (i : Nat) (a : Option Addr × Nat), ad[i]? = some a → ∀ x, a.1 = some x → M x.block) (h4 : ROk R c d) (ha : ∀ a ∈ p.args, a < R.nodes.length) (hk : p.kind = 1 → p.args = []) (h : RAdded w v ad R p v' w') : RLive (Go.Proofs.Ytafpbdmggnfdnaa.more M w w') v' (R.nodes ++ [p]) (addC R.nodes.length c) w' ∧ Only M w w' := by
  obtain ⟨ad', k1, k2, k3, k4⟩ := h
  have ho : Only M w w' := k2.mono fun b _ hb => h5 b hb
  refine ⟨⟨⟨ad', R.add p, _, k1, rfl, h4.add p ha hk, fun b hb => ?_, fun i a ha x hx => ?_⟩, fun b hb => ?_⟩, ho⟩
  · exact (k3 b hb).imp (h5 b) fun h => ⟨h, k1.lt b hb⟩
  · rcases k4 i a ha with h | h
    · exact .inl (h6 i a h x hx)
    · exact .inr ⟨h x hx, k1.adlt i a ha x hx⟩
  · rcases hb with hb | hb
    · exact Nat.lt_of_lt_of_le (h7 b hb) ho.size
    · exact hb.2
theorem rlive_var (h : RLive M v N c w) (hm : N.length + 1 ≤ 1000000) : Calls Try.prog 34 #[.agg #[v]] w fun e w' => ∃ v', e = .returned (.tuple #[.agg #[v'], .int .i64 (N.length : Int)]) ∧ RLive (Go.Proofs.Ytafpbdmggnfdnaa.more M w w') v' (N ++ [varNd]) (addC N.length c) w' ∧ Only M w w' := by
  obtain ⟨⟨ad, R, d, h2, rfl, h4, h5, h6⟩, h7⟩ := h
  refine (rvar_any h2 hm).mono ?_
  rintro e w' ⟨v', rfl, hp⟩
  exact ⟨v', rfl, hp.live h7 h5 h6 h4 (by simp [varNd]) (fun _ => rfl)⟩
def RMakePost (M : Nat → Prop) (N : List Nd) (c : Nat → Nat) (w : World) (kind : Int) (name : ByteArray) (xs : List Int) (e : Ending) (w' : World) : Prop :=
  ∃ v', e = .returned (.tuple #[.agg #[v'], .int .i64 (makeV N kind name xs), .int .i64 (makeErr N.length kind name xs)]) ∧ RLive (Go.Proofs.Ytafpbdmggnfdnaa.more M w w') v' (makeN N kind name xs) (makeC N c kind name xs) w' ∧ Only M w w'
theorem rlive_make (h : RLive M v N c w) (kind : Int) (hkind : kind = 2 ∨ kind = 3 ∨ kind = 4) (name : ByteArray) (hs : name.size ≤ 1000000) (A : Option Addr) (cap : Nat) (xs : List Int) (hA : Ints w A xs) (hl : xs.length ≤ 1000000) (hm : N.length + 1 ≤ 1000000) :
    Calls Try.prog 35 #[.agg #[v], .int .i64 kind, .string name, .slice A xs.length cap] w (RMakePost M N c w kind name xs) := by
  have h' := h
  obtain ⟨⟨ad, R, d, h2, rfl, h4, h5, h6⟩, h7⟩ := h
  refine (rmake_any h2 kind hkind name hs A cap xs hA hl hm).mono ?_
  rintro e w' ⟨v', rfl, ⟨he, hp⟩ | ⟨he, rfl, hb⟩⟩
  · have hall : allIn R.nodes.length xs = true := by
      cases hk : allIn R.nodes.length xs
      · unfold makeErr at he; rw [if_pos hk] at he; exact absurd he (by decide)
      · rfl
    obtain ⟨k1, k2⟩ := hp.live h7 h5 h6 h4 (cast_toNat hall).2 (fun e => by simp only at e; omega)
    refine ⟨v', rfl, ?_, k2⟩
    unfold makeN makeC
    rw [he, if_pos rfl, if_pos rfl]
    exact k1
  · refine ⟨v', rfl, ?_, Only.of_below hb _⟩
    unfold makeN makeC
    rw [if_neg he, if_neg he]
    exact h'.more hb
theorem rlive_unify (h : RLive M v N c w) (a b : Int) : Calls Try.prog 36 #[.agg #[v], .int .i64 a, .int .i64 b] w fun e w' => ∃ err v' c', e = .returned (.tuple #[.agg #[v'], .int .i64 err]) ∧ UniSaid N c a b err c' ∧ RLive (Go.Proofs.Ytafpbdmggnfdnaa.more M w w') v' N c' w' ∧ Below w.heap.size w w' := by
  obtain ⟨⟨ad, R, d, h2, rfl, h4, h5, h6⟩, h7⟩ := h
  refine (runify_any h2 h4 a b).mono ?_
  rintro e w' ⟨err, v', R', c', d', rfl, k1, k2, k3, k4, k5, k6⟩
  refine ⟨err, v', c', rfl, k5, ⟨⟨ad, R', d', k1, k2, k3, fun x hx => ?_, fun i a ha x hx => .inl (h6 i a ha x hx)⟩, fun x hx => ?_⟩, k4⟩
  · rcases k6 with rfl | k6
    · exact .inl (h5 x hx)
    · exact .inr ⟨k6 x hx, k1.lt x hx⟩
  · rcases hx with hx | hx
    · exact Nat.lt_of_lt_of_le (h7 x hx) k4.size
    · exact hx.2
end

/-- Two stores side by side; K: blocks that are neither's. -/
structure Two (K : Nat → Prop) (w0 : World) (g : Nat) (N : List Nd) (c : Nat → Nat) (v : Value) (N' : List Nd) (c' : Nat → Nat) (w : World) : Prop where
  out : ∃ M M', Live M g N c w ∧ RLive M' v N' c' w ∧ (∀ b, M b → ¬ M' b) ∧ ∀ b, M b ∨ M' b → w0.heap.size ≤ b ∧ ¬ K b
  below : Below w0.heap.size w0 w
  kept : ∀ b, K b → b < w.heap.size
def Keeps (K : Nat → Prop) (w w' : World) : Prop := w.heap.size ≤ w'.heap.size ∧ ∀ b, K b → w'.heap[b]? = w.heap[b]?
section
variable {K F : Nat → Prop} {w0 w w' : World} {g : Nat} {N N' : List Nd} {c c' : Nat → Nat} {v : Value}
theorem Two.only (h : Two K w0 g N c v N' c' w) (ho : Only F w w') (hF : ∀ b, F b → K b ∧ w0.heap.size ≤ b) : Two K w0 g N c v N' c' w' := by
  obtain ⟨⟨M, M', h1, h2, h3, h4⟩, h5, h6⟩ := h
  exact ⟨⟨M, M', h1.keep ho (fun b hb hm => (h4 b (.inl hm)).2 (hF b hb).1), h2.keep ho (fun b hb hm => (h4 b (.inr hm)).2 (hF b hb).1), h3, h4⟩, Only.below_trans h5 ho (fun b _ hb => (hF b hb).2) h5.size, fun b hb => Nat.lt_of_lt_of_le (h6 b hb) ho.size⟩
theorem Two.later (h : Two K w0 g N c v N' c' w) (hb : Below w.heap.size w w') : Two K w0 g N c v N' c' w' := h.only (Only.of_below hb (fun _ => False)) (fun _ hf => hf.elim)
/-- What is new since then may be kept, too. -/
theorem Two.more (h : Two K w0 g N c v N' c' w) (hb : Below w.heap.size w w') : Two (Go.Proofs.Ytafpbdmggnfdnaa.more K w w') w0 g N c v N' c' w' := by
  have h' := h.later hb
  obtain ⟨⟨M, M', h1, h2, h3, h4⟩, h5, h6⟩ := h
  refine ⟨⟨M, M', h1.below hb, h2.below hb, h3, fun b hM => ⟨(h4 b hM).1, ?_⟩⟩, h'.below, fun b hK => ?_⟩
  · rintro (hk | hk)
    · exact (h4 b hM).2 hk
    · rcases hM with hm | hm
      · have := h1.lt b hm; omega
      · have := h2.lt b hm; omega
  · rcases hK with hk | hk
    · exact h'.kept b hk
    · exact hk.2
theorem Two.moreOnly (h : Two K w0 g N c v N' c' w) (ho : Only F w w') (hF : ∀ b, F b → K b ∧ w0.heap.size ≤ b) : Two (Go.Proofs.Ytafpbdmggnfdnaa.more K w w') w0 g N c v N' c' w' := by
  have h' := h.only ho hF
  obtain ⟨⟨M, M', h1, h2, h3, h4⟩, h5, h6⟩ := h
  refine ⟨⟨M, M', h1.keep ho (fun b hb hm => (h4 b (.inl hm)).2 (hF b hb).1), h2.keep ho (fun b hb hm => (h4 b (.inr hm)).2 (hF b hb).1), h3, fun b hM => ⟨(h4 b hM).1, ?_⟩⟩, h'.below, fun b hK => ?_⟩
  · rintro (hk | hk)
    · exact (h4 b hM).2 hk
    · rcases hM with hm | hm
      · have := h1.lt b hm; omega
      · have := h2.lt b hm; omega
  · rcases hK with hk | hk
    · exact h'.kept b hk
    · exact hk.2
theorem Two.less {K1 : Nat → Prop} (h : Two K w0 g N c v N' c' w) (hK : ∀ b, K1 b → K b) : Two K1 w0 g N c v N' c' w := by
  obtain ⟨⟨M, M', h1, h2, h3, h4⟩, h5, h6⟩ := h
  exact ⟨⟨M, M', h1, h2, h3, fun b hM => ⟨(h4 b hM).1, fun hk => (h4 b hM).2 (hK b hk)⟩⟩, h5, fun b hb => h6 b (hK b hb)⟩
theorem two_prog {M M' : Nat → Prop} {N1 : List Nd} {c1 : Nat → Nat} (h1 : Live M g N c w) (h2 : RLive M' v N' c' w) (h3 : ∀ b, M b → ¬ M' b) (h4 : ∀ b, M b ∨ M' b → w0.heap.size ≤ b ∧ ¬ K b) (h5 : Below w0.heap.size w0 w) (h6 : ∀ b, K b → b < w.heap.size)
    (k1 : Live (Go.Proofs.Ytafpbdmggnfdnaa.more M w w') g N1 c1 w') (k2 : Only M w w') : Two K w0 g N1 c1 v N' c' w' ∧ Keeps K w w' := by
  have hz := k2.size
  refine ⟨⟨⟨_, M', k1, h2.keep k2 h3, fun b hb hm => ?_, fun b hb => ?_⟩, Only.below_trans h5 k2 (fun b _ hb => (h4 b (.inl hb)).1) h5.size, fun b hb => Nat.lt_of_lt_of_le (h6 b hb) hz⟩, hz, fun b hb => k2.block b (h6 b hb) (fun hm => (h4 b (.inl hm)).2 hb)⟩
  · rcases hb with hb | hb
    · exact h3 b hb hm
    · have := h2.lt b hm; omega
  · have h0 := h5.size
    rcases hb with (hb | hb) | hb
    · exact h4 b (.inl hb)
    · exact ⟨by omega, fun hk => by have := h6 b hk; omega⟩
    · exact h4 b (.inr hb)
theorem two_ref {M M' : Nat → Prop} {v1 : Value} {N1 : List Nd} {c1 : Nat → Nat} (h1 : Live M g N c w) (h2 : RLive M' v N' c' w) (h3 : ∀ b, M b → ¬ M' b) (h4 : ∀ b, M b ∨ M' b → w0.heap.size ≤ b ∧ ¬ K b) (h5 : Below w0.heap.size w0 w) (h6 : ∀ b, K b → b < w.heap.size)
    (k1 : RLive (Go.Proofs.Ytafpbdmggnfdnaa.more M' w w') v1 N1 c1 w') (k2 : Only M' w w') : Two K w0 g N c v1 N1 c1 w' ∧ Keeps K w w' := by
  have hz := k2.size
  refine ⟨⟨⟨M, _, h1.keep k2 (fun b hb hm => h3 b hm hb), k1, fun b hm hb => ?_, fun b hb => ?_⟩, Only.below_trans h5 k2 (fun b _ hb => (h4 b (.inr hb)).1) h5.size, fun b hb => Nat.lt_of_lt_of_le (h6 b hb) hz⟩, hz, fun b hb => k2.block b (h6 b hb) (fun hm => (h4 b (.inr hm)).2 hb)⟩
  · rcases hb with hb | hb
    · exact h3 b hm hb
    · have := h1.lt b hm; omega
  · have h0 := h5.size
    rcases hb with hb | (hb | hb)
    · exact h4 b (.inl hb)
    · exact h4 b (.inr hb)
    · exact ⟨by omega, fun hk => by have := h6 b hk; omega⟩
theorem Live.to_more {M : Nat → Prop} (h : Live M g N c w') (ho : Only F w w') : Live (Go.Proofs.Ytafpbdmggnfdnaa.more M w w') g N c w' := by
  obtain ⟨⟨L, S, d, h1, h2, h3, h4, h5, h6⟩, h7⟩ := h
  exact ⟨⟨L, S, d, h1, h2, h3, h4, fun b hb => .inl (h5 b hb), fun i a ha x hx => .inl (h6 i a ha x hx)⟩, fun b hb => hb.elim (h7 b) (fun h => h.2)⟩
theorem two_var (h : Two K w0 g N c v N' c' w) (hm : N.length + 1 ≤ 1000000) : Calls Try.prog 26 #[.pointer (some ⟨g, 0, none⟩)] w fun e w' => e = .returned (.int .i64 (N.length : Int)) ∧ Two K w0 g (N ++ [varNd]) (addC N.length c) v N' c' w' ∧ Keeps K w w' := by
  obtain ⟨⟨M, M', h1, h2, h3, h4⟩, h5, h6⟩ := h
  refine (live_var h1 hm).mono ?_
  rintro e w' ⟨rfl, k1, k2⟩
  exact ⟨rfl, two_prog h1 h2 h3 h4 h5 h6 k1 k2⟩
def TwoMade (K : Nat → Prop) (w0 : World) (g : Nat) (N : List Nd) (c : Nat → Nat) (v : Value) (N' : List Nd) (c' : Nat → Nat) (w : World) (kind : Int) (name : ByteArray) (xs : List Int) (e : Ending) (w' : World) : Prop :=
  e = .returned (.tuple #[.int .i64 (makeV N kind name xs), .int .i64 (makeErr N.length kind name xs)]) ∧ Two K w0 g (makeN N kind name xs) (makeC N c kind name xs) v N' c' w' ∧ Keeps K w w'
theorem two_con (h : Two K w0 g N c v N' c' w) (name : ByteArray) (A : Option Addr) (cap : Nat) (xs : List Int) (hx : Ints w A xs) (hl : xs.length ≤ 1000000) (hs : name.size ≤ 1000000) (hm : N.length + 1 ≤ 1000000) :
    Calls Try.prog 30 #[.pointer (some ⟨g, 0, none⟩), .string name, .slice A xs.length cap] w (TwoMade K w0 g N c v N' c' w 2 name xs) := by
  obtain ⟨⟨M, M', h1, h2, h3, h4⟩, h5, h6⟩ := h
  refine (live_con h1 name A cap xs hx hl hs hm).mono ?_
  rintro e w' ⟨rfl, k1, k2⟩
  exact ⟨rfl, two_prog h1 h2 h3 h4 h5 h6 k1 k2⟩
theorem two_pair (h : Two K w0 g N c v N' c' w) (A : Option Addr) (cap : Nat) (xs : List Int) (hx : Ints w A xs) (hl : xs.length ≤ 1000000) (hm : N.length + 1 ≤ 1000000) :
    Calls Try.prog 27 #[.pointer (some ⟨g, 0, none⟩), .slice A xs.length cap] w (TwoMade K w0 g N c v N' c' w 3 ByteArray.empty xs) := by
  obtain ⟨⟨M, M', h1, h2, h3, h4⟩, h5, h6⟩ := h
  refine (live_pair h1 A cap xs hx hl hm).mono ?_
  rintro e w' ⟨rfl, k1, k2⟩
  exact ⟨rfl, two_prog h1 h2 h3 h4 h5 h6 k1 k2⟩
theorem two_arrow (h : Two K w0 g N c v N' c' w) (a b : Int) (hm : N.length + 1 ≤ 1000000) :
    Calls Try.prog 31 #[.pointer (some ⟨g, 0, none⟩), .int .i64 a, .int .i64 b] w (TwoMade K w0 g N c v N' c' w 4 ByteArray.empty [a, b]) := by
  obtain ⟨⟨M, M', h1, h2, h3, h4⟩, h5, h6⟩ := h
  refine (live_arrow h1 a b hm).mono ?_
  rintro e w' ⟨rfl, k1, k2⟩
  exact ⟨rfl, two_prog h1 h2 h3 h4 h5 h6 k1 k2⟩
theorem two_len (h : Two K w0 g N c v N' c' w) : Calls Try.prog 32 #[.pointer (some ⟨g, 0, none⟩)] w fun e w' => e = .returned (.int .i64 (N.length : Int)) ∧ w = w' := by
  obtain ⟨⟨M, M', h1, h2, h3, h4⟩, h5, h6⟩ := h
  exact live_len h1
theorem two_unify (h : Two K w0 g N c v N' c' w) (a b : Int) : Calls Try.prog 23 #[.pointer (some ⟨g, 0, none⟩), .int .i64 a, .int .i64 b] w fun e w' => ∃ err c1, e = .returned (.int .i64 err) ∧ UniSaid N c a b err c1 ∧ Two K w0 g N c1 v N' c' w' ∧ Keeps K w w' := by
  obtain ⟨⟨M, M', h1, h2, h3, h4⟩, h5, h6⟩ := h
  refine (live_unify h1 a b).mono ?_
  rintro e w' ⟨err, c1, rfl, k0, k1, k2⟩
  exact ⟨err, c1, rfl, k0, two_prog h1 h2 h3 h4 h5 h6 (k1.to_more k2) k2⟩
theorem two_alike (h : Two K w0 g N c v N' c' w) (a b : Nat) (ha : a < N.length) (hb : b < N.length) : Calls Try.prog 19 #[.pointer (some ⟨g, 0, none⟩), .int .i64 (a : Int), .int .i64 (b : Int)] w fun e w' => (∃ r : Bool, e = .returned (.bool r) ∧ (r = true ↔ AlikeIn N c a b)) ∧ Two K w0 g N c v N' c' w' ∧ Keeps K w w' := by
  obtain ⟨⟨M, M', h1, h2, h3, h4⟩, h5, h6⟩ := h
  refine (live_alike h1 a b ha hb).mono ?_
  rintro e w' ⟨h8, k1, k2⟩
  exact ⟨h8, two_prog h1 h2 h3 h4 h5 h6 (k1.to_more k2) k2⟩
theorem twor_var (h : Two K w0 g N c v N' c' w) (hm : N'.length + 1 ≤ 1000000) : Calls Try.prog 34 #[.agg #[v]] w fun e w' => ∃ v1, e = .returned (.tuple #[.agg #[v1], .int .i64 (N'.length : Int)]) ∧ Two K w0 g N c v1 (N' ++ [varNd]) (addC N'.length c') w' ∧ Keeps K w w' := by
  obtain ⟨⟨M, M', h1, h2, h3, h4⟩, h5, h6⟩ := h
  refine (rlive_var h2 hm).mono ?_
  rintro e w' ⟨v1, rfl, k1, k2⟩
  exact ⟨v1, rfl, two_ref h1 h2 h3 h4 h5 h6 k1 k2⟩
def TworMade (K : Nat → Prop) (w0 : World) (g : Nat) (N : List Nd) (c : Nat → Nat) (N' : List Nd) (c' : Nat → Nat) (w : World) (kind : Int) (name : ByteArray) (xs : List Int) (e : Ending) (w' : World) : Prop :=
  ∃ v1, e = .returned (.tuple #[.agg #[v1], .int .i64 (makeV N' kind name xs), .int .i64 (makeErr N'.length kind name xs)]) ∧ Two K w0 g N c v1 (makeN N' kind name xs) (makeC N' c' kind name xs) w' ∧ Keeps K w w'
theorem twor_make (h : Two K w0 g N c v N' c' w) (kind : Int) (hkind : kind = 2 ∨ kind = 3 ∨ kind = 4) (name : ByteArray) (hs : name.size ≤ 1000000) (A : Option Addr) (cap : Nat) (xs : List Int) (hA : Ints w A xs) (hl : xs.length ≤ 1000000) (hm : N'.length + 1 ≤ 1000000) :
    Calls Try.prog 35 #[.agg #[v], .int .i64 kind, .string name, .slice A xs.length cap] w (TworMade K w0 g N c N' c' w kind name xs) := by
  obtain ⟨⟨M, M', h1, h2, h3, h4⟩, h5, h6⟩ := h
  refine (rlive_make h2 kind hkind name hs A cap xs hA hl hm).mono ?_
  rintro e w' ⟨v1, rfl, k1, k2⟩
  exact ⟨v1, rfl, two_ref h1 h2 h3 h4 h5 h6 k1 k2⟩
theorem twor_unify (h : Two K w0 g N c v N' c' w) (a b : Int) : Calls Try.prog 36 #[.agg #[v], .int .i64 a, .int .i64 b] w fun e w' => ∃ err v1 c1, e = .returned (.tuple #[.agg #[v1], .int .i64 err]) ∧ UniSaid N' c' a b err c1 ∧ Two K w0 g N c v1 N' c1 w' ∧ Keeps K w w' := by
  obtain ⟨⟨M, M', h1, h2, h3, h4⟩, h5, h6⟩ := h
  refine (rlive_unify h2 a b).mono ?_
  rintro e w' ⟨err, v1, c1, rfl, k0, k1, k2⟩
  exact ⟨err, v1, c1, rfl, k0, two_ref h1 h2 h3 h4 h5 h6 k1 (Only.of_below k2 _)⟩
end
end Go.Proofs.Ytafpbdmggnfdnaa
