/- Part 9 of the proof of UnifyMeets: what follows was kept as these texts: Live, PlainRef, PlainRun, RefStore, RunParts. -/
import Derived.Test.YtafpbdmggnfdnaaUnifyMeetsPt1
import Derived.Test.YtafpbdmggnfdnaaUnifyMeetsPt2
import Derived.Test.YtafpbdmggnfdnaaUnifyMeetsPt3
import Derived.Test.YtafpbdmggnfdnaaUnifyMeetsPt4
import Derived.Test.YtafpbdmggnfdnaaUnifyMeetsPt5
import Derived.Test.YtafpbdmggnfdnaaUnifyMeetsPt6
import Derived.Test.YtafpbdmggnfdnaaUnifyMeetsPt7
import Derived.Test.YtafpbdmggnfdnaaUnifyMeetsPt8
/- A store of the program's, with all that is its own in memory: what each call answers and what it leaves. -/
namespace Go.Proofs.Ytafpbdmggnfdnaa
open Go.RowKit
set_option linter.unusedVariables false

/-- At address g lies a store of these nodes with these classes; all that it may write or must read lies in M. -/
structure Live (M : Nat → Prop) (g : Nat) (N : List Nd) (c : Nat → Nat) (w : World) : Prop where
  out : ∃ L S d, L.g = g ∧ St w 0 L S ∧ S.nodes = N ∧ Ok S c d ∧ (∀ b, L.fp b → M b) ∧ ∀ (i : Nat) (a : Option Addr × Nat), L.ad[i]? = some a → ∀ x, a.1 = some x → M x.block
  lt : ∀ b, M b → b < w.heap.size
/-- What was new behind w. -/
def more (M : Nat → Prop) (w w' : World) : Nat → Prop := fun b => M b ∨ (w.heap.size ≤ b ∧ b < w'.heap.size)
theorem St.base0 {w : World} {base : Nat} {L : Lay} {S : PS} (h : St w base L S) : St w 0 L S := ⟨h.blk, Nat.zero_le _, own_base h.nodes (Nat.zero_le _), own_base h.above (Nat.zero_le _), own_base h.ranks (Nat.zero_le _), own_base h.forms (Nat.zero_le _), h.ar, h.af, h.rf, h.ad, h.args, h.many, h.few⟩
section
variable {M F : Nat → Prop} {g : Nat} {N : List Nd} {c : Nat → Nat} {w w' : World}
theorem Live.keep (h : Live M g N c w) (ho : Only F w w') (hF : ∀ b, F b → ¬ M b) : Live M g N c w' := by
  obtain ⟨⟨L, S, d, h1, h2, h3, h4, h5, h6⟩, h7⟩ := h
  exact ⟨⟨L, S, d, h1, h2.only ho (fun b hb _ hf => hF b hb (h5 b hf)) (fun i a ha x hx hf => hF _ hf (h6 i a ha x hx)), h3, h4, h5, h6⟩, fun b hb => Nat.lt_of_lt_of_le (h7 b hb) ho.size⟩
theorem Live.below (h : Live M g N c w) (hb : Below w.heap.size w w') : Live M g N c w' := h.keep (Only.of_below hb (fun _ => False)) (fun _ hf => hf.elim)
theorem Live.many (h : Live M g N c w) : N.length ≤ 1000000 := by
  obtain ⟨⟨L, S, d, h1, h2, rfl, h4, h5, h6⟩, h7⟩ := h
  exact h2.many
theorem Live.wf (h : Live M g N c w) : Wf N := by
  obtain ⟨⟨L, S, d, h1, h2, rfl, h4, h5, h6⟩, h7⟩ := h
  exact h4.inv.wf
theorem Live.closed (h : Live M g N c w) : Closed N c := by
  obtain ⟨⟨L, S, d, h1, h2, rfl, h4, h5, h6⟩, h7⟩ := h
  exact h4.closed
theorem Live.acyc (h : Live M g N c w) : Acyc N c := by
  obtain ⟨⟨L, S, d, h1, h2, rfl, h4, h5, h6⟩, h7⟩ := h
  exact h4.acyc
theorem Live.roots (h : Live M g N c w) (i : Nat) (hi : i < N.length) : c i < N.length ∧ c (c i) = c i := by
  obtain ⟨⟨L, S, d, h1, h2, rfl, h4, h5, h6⟩, h7⟩ := h
  exact h4.roots i hi
/-- What nodes stand for, by the classes alone: forms are chosen. -/
def TreeOf (N : List Nd) (c : Nat → Nat) (is : List Nat) (T : Fo) : Prop := ∃ F : Nat → Nat, (∀ i, i < N.length → Form N c (c i) (F (c i))) ∧ Stands N c F is T
theorem TreeOf.unique {is : List Nat} {T U : Fo} (hw : Wf N) (hcl : Closed N c) (hc : ∀ i, i < N.length → c i < N.length ∧ c (c i) = c i) (hi : ∀ i ∈ is, i < N.length) (h : TreeOf N c is T) (k : TreeOf N c is U) : T = U := by
  obtain ⟨F, hF, hT⟩ := h
  obtain ⟨F', hF', hU⟩ := k
  have := Stands.same hw hcl (fun _ _ _ _ e => e) (fun _ _ _ _ e => e) hc hF hF' hT is U hi hi rfl (fun k i j h1 h2 => by rw [h1] at h2; injection h2 with e; rw [e]) hU
  rw [this]
  have hr := hT.roots hw hc hi
  have e1 : T.mapv (fun v => v) = T := by
    clear this hr hT hU
    induction T with
    | nil => rfl
    | var n r ih => simp [Fo.mapv, ih]
    | con k m a r iha ih => simp [Fo.mapv, iha, ih]
  rw [Fo.mapv_congr T (g := fun v => v) (fun v hv => (hr v hv).2), e1]
theorem Live.tree (h : Live M g N c w) (is : List Nat) (hi : ∀ i ∈ is, i < N.length) : ∃ T, TreeOf N c is T := by
  obtain ⟨⟨L, S, d, h1, h2, rfl, h4, h5, h6⟩, h7⟩ := h
  obtain ⟨T, hT⟩ := h4.stands is hi
  exact ⟨T, par S.forms, h4.forms, hT⟩
end

section
variable {M : Nat → Prop} {g : Nat} {N : List Nd} {c : Nat → Nat} {w : World}
theorem live_new (w : World) : Calls Try.prog 25 #[] w fun e w' => e = .returned (.pointer (some ⟨w.heap.size, 0, none⟩)) ∧ Live (fun b => b = w.heap.size) w.heap.size [] (fun i => i) w' ∧ Below w.heap.size w w' := by
  refine (new_any w 0 (Nat.zero_le _)).mono ?_
  rintro e w' ⟨rfl, h1, h2⟩
  refine ⟨rfl, ⟨⟨_, _, _, rfl, h1, rfl, Ok.new, ?_, fun i a ha => by simp at ha⟩, ?_⟩, h2⟩
  · rintro b (rfl | hb | hb | hb | hb)
    · rfl
    · cases hb
    · cases hb
    · cases hb
    · cases hb
  · rintro b rfl; exact h1.glt
theorem live_var (h : Live M g N c w) (hm : N.length + 1 ≤ 1000000) : Calls Try.prog 26 #[.pointer (some ⟨g, 0, none⟩)] w fun e w' => e = .returned (.int .i64 (N.length : Int)) ∧ Live (more M w w') g (N ++ [varNd]) (addC N.length c) w' ∧ Only M w w' := by
  obtain ⟨⟨L, S, d, rfl, h2, rfl, h4, h5, h6⟩, h7⟩ := h
  refine (var_any h2 hm).mono ?_
  rintro e w' ⟨rfl, L', k1, k2, k3, k4, k5⟩
  have ho : Only M w w' := k3.mono fun b _ hb => h5 b hb
  refine ⟨rfl, ⟨⟨L', S.add varNd, _, k2, k1, rfl, h4.add varNd (by simp [varNd]) (fun _ => rfl), fun b hb => ?_, fun i a ha x hx => ?_⟩, fun b hb => ?_⟩, ho⟩
  · exact (k4 b hb).imp (h5 b) fun h => ⟨h, (k1.fp_lt b hb).2⟩
  · rcases k5 i a ha with h | h
    · exact .inl (h6 i a h x hx)
    · rw [h] at hx; cases hx
  · rcases hb with hb | hb
    · exact Nat.lt_of_lt_of_le (h7 b hb) ho.size
    · exact hb.2

/-- The error that a making answers. -/
def makeErr (n : Nat) (kind : Int) (name : ByteArray) (xs : List Int) : Int := if allIn n xs = false then 221 else if (kind = 2 ∧ kindL name.toList ≠ 1) ∨ (kind = 3 ∧ xs.length < 2) then 120 else 0
def makeN (N : List Nd) (kind : Int) (name : ByteArray) (xs : List Int) : List Nd := if makeErr N.length kind name xs = 0 then N ++ [⟨kind, name, xs.map Int.toNat⟩] else N
def makeC (N : List Nd) (c : Nat → Nat) (kind : Int) (name : ByteArray) (xs : List Int) : Nat → Nat := if makeErr N.length kind name xs = 0 then addC N.length c else c
def makeV (N : List Nd) (kind : Int) (name : ByteArray) (xs : List Int) : Int := if makeErr N.length kind name xs = 0 then (N.length : Int) else 0
def MakePost (M : Nat → Prop) (g : Nat) (N : List Nd) (c : Nat → Nat) (w : World) (kind : Int) (name : ByteArray) (xs : List Int) (e : Ending) (w' : World) : Prop :=
  e = .returned (.tuple #[.int .i64 (makeV N kind name xs), .int .i64 (makeErr N.length kind name xs)]) ∧ Live (more M w w') g (makeN N kind name xs) (makeC N c kind name xs) w' ∧ Only M w w'
theorem Live.more (h : Live M g N c w) {w' : World} (hb : Below w.heap.size w w') : Live (Go.Proofs.Ytafpbdmggnfdnaa.more M w w') g N c w' := by
  obtain ⟨⟨L, S, d, h1, h2, h3, h4, h5, h6⟩, h7⟩ := h
  refine ⟨⟨L, S, d, h1, h2.later hb, h3, h4, fun b hb => .inl (h5 b hb), fun i a ha x hx => .inl (h6 i a ha x hx)⟩, fun b hb' => ?_⟩
  rcases hb' with hb' | hb'
  · exact Nat.lt_of_lt_of_le (h7 b hb') hb.size
  · exact hb'.2
theorem make_no (h : Live M g N c w) {w' : World} (hb : Below w.heap.size w w') {kind : Int} {name : ByteArray} {xs : List Int} {err : Int} (he : makeErr N.length kind name xs = err) (h0 : err ≠ 0) : MakePost M g N c w kind name xs (.returned (.tuple #[.int .i64 0, .int .i64 err])) w' := by
  unfold MakePost makeV makeN makeC
  rw [he, if_neg h0, if_neg h0, if_neg h0]
  exact ⟨rfl, h.more hb, Only.of_below hb _⟩
theorem make_yes {L : Lay} {S : PS} {d : Nat → Nat} (h2 : St w 0 L S) (h4 : Ok S c d) (h5 : ∀ b, L.fp b → M b) (h6 : ∀ (i : Nat) (a : Option Addr × Nat), L.ad[i]? = some a → ∀ x, a.1 = some x → M x.block) (h7 : ∀ b, M b → b < w.heap.size) {kind : Int} {name : ByteArray} {xs : List Int} (he : makeErr S.nodes.length kind name xs = 0) (hk : allIn S.nodes.length xs = true) (h1 : kind ≠ 1) {e : Ending} {w' : World} (hp : MadePost w 0 L S ⟨kind, name, xs.map Int.toNat⟩ e w') : MakePost M L.g S.nodes c w kind name xs e w' := by
  obtain ⟨rfl, L', k1, k2, k3, k4, k5⟩ := hp
  have ho : Only M w w' := k3.mono fun b _ hb => h5 b hb
  unfold MakePost makeV makeN makeC
  rw [he, if_pos rfl, if_pos rfl, if_pos rfl]
  refine ⟨rfl, ⟨⟨L', S.add ⟨kind, name, xs.map Int.toNat⟩, _, k2, k1, rfl, h4.add _ (cast_toNat hk).2 (fun e => absurd e h1), fun b hb => ?_, fun i a ha x hx => ?_⟩, fun b hb => ?_⟩, ho⟩
  · exact (k4 b hb).imp (h5 b) fun h => ⟨h, (k1.fp_lt b hb).2⟩
  · rcases k5 i a ha with h | h
    · exact .inl (h6 i a h x hx)
    · have hl := k1.older.ad i a ha x hx
      exact .inr ⟨h x hx, hl⟩
  · rcases hb with hb | hb
    · exact Nat.lt_of_lt_of_le (h7 b hb) ho.size
    · exact hb.2
theorem live_con (h : Live M g N c w) (name : ByteArray) (A : Option Addr) (cap : Nat) (xs : List Int) (hx : Ints w A xs) (hl : xs.length ≤ 1000000) (hs : name.size ≤ 1000000) (hm : N.length + 1 ≤ 1000000) :
    Calls Try.prog 30 #[.pointer (some ⟨g, 0, none⟩), .string name, .slice A xs.length cap] w (MakePost M g N c w 2 name xs) := by
  have h' := h
  obtain ⟨⟨L, S, d, rfl, h2, rfl, h4, h5, h6⟩, h7⟩ := h
  cases hk : allIn S.nodes.length xs with
  | false =>
    refine (con_no h2 name A cap xs hx hl hk).mono ?_
    rintro e w' ⟨rfl, rfl⟩
    exact make_no h' (Below.refl _ _) (by unfold makeErr; rw [if_pos hk]) (by decide)
  | true =>
    by_cases hq : kindL name.toList = 1
    · exact (con_any h2 name A cap xs hx hl hs hk hq hm).mono fun e w' hp => make_yes h2 h4 h5 h6 h7 (by unfold makeErr; rw [if_neg (by simp [hk]), if_neg (by simp [hq])]) hk (by decide) hp
    · refine (con_bad h2 name A cap xs hx hl hs hk hq).mono ?_
      rintro e w' ⟨rfl, rfl⟩
      exact make_no h' (Below.refl _ _) (by unfold makeErr; rw [if_neg (by simp [hk]), if_pos (.inl ⟨rfl, hq⟩)]) (by decide)
theorem live_pair (h : Live M g N c w) (A : Option Addr) (cap : Nat) (xs : List Int) (hx : Ints w A xs) (hl : xs.length ≤ 1000000) (hm : N.length + 1 ≤ 1000000) :
    Calls Try.prog 27 #[.pointer (some ⟨g, 0, none⟩), .slice A xs.length cap] w (MakePost M g N c w 3 ByteArray.empty xs) := by
  have h' := h
  obtain ⟨⟨L, S, d, rfl, h2, rfl, h4, h5, h6⟩, h7⟩ := h
  cases hk : allIn S.nodes.length xs with
  | false =>
    refine (pair_no h2 A cap xs hx hl hk).mono ?_
    rintro e w' ⟨rfl, rfl⟩
    exact make_no h' (Below.refl _ _) (by unfold makeErr; rw [if_pos hk]) (by decide)
  | true =>
    by_cases hq : 2 ≤ xs.length
    · exact (pair_any h2 A cap xs hx hl hk hq hm).mono fun e w' hp => make_yes h2 h4 h5 h6 h7 (by unfold makeErr; rw [if_neg (by simp [hk]), if_neg (by rintro (⟨h, _⟩ | ⟨_, h⟩); exact absurd h (by decide); omega)]) hk (by decide) hp
    · refine (pair_bad h2 A cap xs hx hl hk (by omega)).mono ?_
      rintro e w' ⟨rfl, rfl⟩
      exact make_no h' (Below.refl _ _) (by unfold makeErr; rw [if_neg (by simp [hk]), if_pos (.inr ⟨rfl, by omega⟩)]) (by decide)
theorem live_arrow (h : Live M g N c w) (a b : Int) (hm : N.length + 1 ≤ 1000000) :
    Calls Try.prog 31 #[.pointer (some ⟨g, 0, none⟩), .int .i64 a, .int .i64 b] w (MakePost M g N c w 4 ByteArray.empty [a, b]) := by
  have h' := h
  obtain ⟨⟨L, S, d, rfl, h2, rfl, h4, h5, h6⟩, h7⟩ := h
  cases hk : allIn S.nodes.length [a, b] with
  | false =>
    refine (arrow_no h2 a b hk).mono ?_
    rintro e w' ⟨rfl, hb⟩
    exact make_no h' hb (by unfold makeErr; rw [if_pos hk]) (by decide)
  | true =>
    exact (arrow_any h2 a b hk hm).mono fun e w' hp => make_yes (xs := [a, b]) h2 h4 h5 h6 h7 (by unfold makeErr; rw [if_neg (by simp [hk]), if_neg (by rintro (⟨h, _⟩ | ⟨h, _⟩) <;> exact absurd h (by decide))]) hk (by decide) hp
theorem live_len (h : Live M g N c w) : Calls Try.prog 32 #[.pointer (some ⟨g, 0, none⟩)] w fun e w' => e = .returned (.int .i64 (N.length : Int)) ∧ w = w' := by
  obtain ⟨⟨L, S, d, rfl, h2, rfl, h4, h5, h6⟩, h7⟩ := h
  exact len_any h2
/-- What Unify answers. -/
def UniSaid (N : List Nd) (c : Nat → Nat) (a b : Int) (err : Int) (c' : Nat → Nat) : Prop :=
  (allIn N.length [a, b] = false ∧ err = 221 ∧ c' = c) ∨ (allIn N.length [a, b] = true ∧ ((err = 0 ∧ Least N c a.toNat b.toNat c') ∨ (err = 131 ∧ c' = c ∧ ∀ e, ¬ Good N c a.toNat b.toNat e) ∨ (err = 130 ∧ c' = c ∧ ∃ cl, Least N c a.toNat b.toNat cl ∧ ¬ Acyc N cl)))
theorem live_unify (h : Live M g N c w) (a b : Int) : Calls Try.prog 23 #[.pointer (some ⟨g, 0, none⟩), .int .i64 a, .int .i64 b] w fun e w' => ∃ err c', e = .returned (.int .i64 err) ∧ UniSaid N c a b err c' ∧ Live M g N c' w' ∧ Only M w w' := by
  have h' := h
  obtain ⟨⟨L, S, d, rfl, h2, rfl, h4, h5, h6⟩, h7⟩ := h
  cases hk : allIn S.nodes.length [a, b] with
  | false =>
    refine (unify_no h2 a b hk).mono ?_
    rintro e w' ⟨rfl, hb⟩
    exact ⟨221, c, rfl, .inl ⟨hk, rfl, rfl⟩, h'.below hb, Only.of_below hb _⟩
  | true =>
    have hab : (0 ≤ a ∧ a < (S.nodes.length : Int)) ∧ (0 ≤ b ∧ b < (S.nodes.length : Int)) := by simpa [allIn] using hk
    have := unify_any h2 h4 a.toNat b.toNat (by omega) (by omega)
    rw [show ((a.toNat : Nat) : Int) = a by omega, show ((b.toNat : Nat) : Int) = b by omega] at this
    refine this.mono ?_
    rintro e w' ⟨S', c', d', err, rfl, k1, k2, k3, k4, k5⟩
    have ho : Only M w w' := k4.mono fun b _ hb => h5 b (Lay.fq_fp hb)
    refine ⟨err, c', rfl, .inr ⟨hk, ?_⟩, ⟨⟨L, S', d', rfl, k1, k2, k3, h5, h6⟩, fun b hb => Nat.lt_of_lt_of_le (h7 b hb) ho.size⟩, ho⟩
    rcases k5 with ⟨e1, e2⟩ | ⟨e1, _, e2, e3⟩ | ⟨e1, _, e2, e3⟩
    · exact .inl ⟨e1, e2⟩
    · exact .inr (.inl ⟨e1, e2, e3⟩)
    · exact .inr (.inr ⟨e1, e2, e3⟩)
theorem live_alike (h : Live M g N c w) (a b : Nat) (ha : a < N.length) (hb : b < N.length) : Calls Try.prog 19 #[.pointer (some ⟨g, 0, none⟩), .int .i64 (a : Int), .int .i64 (b : Int)] w fun e w' => (∃ r : Bool, e = .returned (.bool r) ∧ (r = true ↔ AlikeIn N c a b)) ∧ Live M g N c w' ∧ Only M w w' := by
  obtain ⟨⟨L, S, d, rfl, h2, rfl, h4, h5, h6⟩, h7⟩ := h
  refine (alike_any h2 h4 a b ha hb).mono ?_
  rintro e w' ⟨h8, k1, k2⟩
  have ho : Only M w w' := k2.mono fun b _ hb => h5 b (Lay.fq_fp hb)
  exact ⟨h8, ⟨⟨L, S, d, rfl, k1, rfl, h4, h5, h6⟩, fun b hb => Nat.lt_of_lt_of_le (h7 b hb) ho.size⟩, ho⟩
theorem live_size (h : Live M g N c w) (i : Int) (sz : Int) (hs : (allIn N.length [i] = false ∧ sz = 0) ∨ (allIn N.length [i] = true ∧ ∃ T, TreeOf N c [i.toNat] T ∧ sz = (capped T.cnt : Int))) : Calls Try.prog 13 #[.pointer (some ⟨g, 0, none⟩), .int .i64 i] w fun e w' => e = .returned (.int .i64 sz) ∧ Below w.heap.size w w' := by
  have h' := h
  obtain ⟨⟨L, S, d, rfl, h2, rfl, h4, h5, h6⟩, h7⟩ := h
  rcases hs with ⟨hk, rfl⟩ | ⟨hk, T, hT, rfl⟩
  · exact size_no h2 i hk
  · have hab : 0 ≤ i ∧ i < (S.nodes.length : Int) := by simpa [allIn] using hk
    obtain ⟨T', hT'⟩ := h4.stands [i.toNat] (by simp; omega)
    have e1 : T = T' := TreeOf.unique h4.inv.wf h4.closed h4.roots (by simp; omega) hT ⟨par S.forms, h4.forms, hT'⟩
    subst e1
    have := size_any h2 h4 i.toNat (by omega) T hT'
    rwa [show ((i.toNat : Nat) : Int) = i by omega] at this
theorem live_types (h : Live M g N c w) (A : Option Addr) (cap : Nat) (ns : List Nat) (hA : Nats w A ns) (hns : ∀ x ∈ ns, x < N.length) (hlen : ns.length ≤ 1000000) (T : Fo) (hT : TreeOf N c ns T) (hsz : ∀ x ∈ ns, ∀ B, TreeOf N c [x] B → B.cnt ≤ 300) :
    Calls Try.prog 15 #[.pointer (some ⟨g, 0, none⟩), .slice A ns.length cap] w (TypesPost w ns.length (ren T)) := by
  obtain ⟨⟨L, S, d, rfl, h2, rfl, h4, h5, h6⟩, h7⟩ := h
  obtain ⟨T', hT'⟩ := h4.stands ns hns
  have e1 : T = T' := TreeOf.unique h4.inv.wf h4.closed h4.roots hns hT ⟨par S.forms, h4.forms, hT'⟩
  subst e1
  exact types_any h2 h4 A cap ns hA hns hlen T hT' (fun x hx B hB => hsz x hx B ⟨par S.forms, h4.forms, hB⟩)
theorem live_types_no (h : Live M g N c w) (A : Option Addr) (cap : Nat) (xs : List Int) (hA : Ints w A xs) (hlen : xs.length ≤ 1000000) (hall : allIn N.length xs = false) :
    Calls Try.prog 15 #[.pointer (some ⟨g, 0, none⟩), .slice A xs.length cap] w (TypesNo w 221) := by
  obtain ⟨⟨L, S, d, rfl, h2, rfl, h4, h5, h6⟩, h7⟩ := h
  exact types_no h2 A cap xs hA hlen hall
theorem live_types_big (h : Live M g N c w) (A : Option Addr) (cap : Nat) (ns : List Nat) (hA : Nats w A ns) (hns : ∀ x ∈ ns, x < N.length) (hlen : ns.length ≤ 1000000) (hbig : ∃ x ∈ ns, ∃ B, TreeOf N c [x] B ∧ 300 < B.cnt) :
    Calls Try.prog 15 #[.pointer (some ⟨g, 0, none⟩), .slice A ns.length cap] w (TypesNo w 120) := by
  obtain ⟨⟨L, S, d, rfl, h2, rfl, h4, h5, h6⟩, h7⟩ := h
  refine types_big h2 h4 A cap ns hA hns hlen ?_
  obtain ⟨x, hx, B, hB, hl⟩ := hbig
  obtain ⟨B', hB'⟩ := h4.stands [x] (by simpa using hns x hx)
  have e1 : B = B' := TreeOf.unique h4.inv.wf h4.closed h4.roots (by simpa using hns x hx) hB ⟨par S.forms, h4.forms, hB'⟩
  subst e1
  exact ⟨x, hx, B, hB', hl⟩
end
end Go.Proofs.Ytafpbdmggnfdnaa

/- Plain: the reference's store (nodes with links): what holds of it; what a link does to it; a search for cycles that calls itself. -/
namespace Go.Proofs.Ytafpbdmggnfdnaa
set_option linter.unusedVariables false

/-- The reference's store: nodes, and which one each is alike to (itself: none). -/
structure RS where
  nodes : List Nd
  up : List Nat
structure RInv (R : RS) (c d : Nat → Nat) : Prop where
  lu : R.up.length = R.nodes.length
  wf : Wf R.nodes
  forest : Forest R.nodes.length (par R.up) c d
  forms : ∀ x, x < R.nodes.length → c x = x → Form R.nodes c x x
structure ROk (R : RS) (c d : Nat → Nat) : Prop where
  inv : RInv R c d
  closed : Closed R.nodes c
  acyc : Acyc R.nodes c
def RS.link (R : RS) (x y : Nat) : RS := { R with up := R.up.set x y }
def RS.add (R : RS) (p : Nd) : RS := ⟨R.nodes ++ [p], R.up ++ [R.nodes.length]⟩
theorem RInv.root {R : RS} {c d : Nat → Nat} (h : RInv R c d) (i : Nat) (hi : i < R.nodes.length) : c i < R.nodes.length ∧ par R.up (c i) = c i ∧ c (c i) = c i := h.forest.top i hi
theorem RInv.rootOf {R : RS} {c d : Nat → Nat} (h : RInv R c d) (x : Nat) (hx : x < R.nodes.length) (e : c x = x) : par R.up x = x := by
  have := (h.root x hx).2.1; rwa [e] at this
theorem ROk.roots {R : RS} {c d : Nat → Nat} (h : ROk R c d) (i : Nat) (hi : i < R.nodes.length) : c i < R.nodes.length ∧ c (c i) = c i := ⟨(h.inv.root i hi).1, (h.inv.root i hi).2.2⟩
theorem ROk.forms {R : RS} {c d : Nat → Nat} (h : ROk R c d) (i : Nat) (hi : i < R.nodes.length) : Form R.nodes c (c i) (c i) := h.inv.forms (c i) (h.roots i hi).1 (h.roots i hi).2
theorem RInv.link {R : RS} {c d : Nat → Nat} (h : RInv R c d) (x y : Nat) (hx : x < R.nodes.length) (hy : y < R.nodes.length) (cx : c x = x) (cy : c y = y) (hne : x ≠ y) (P Q : Nd) (hP : R.nodes[x]? = some P) (hQ : R.nodes[y]? = some Q) (hk : P.kind ≠ 1 → Q.kind ≠ 1) :
    RInv (R.link x y) (join c x y) (fun i => if c i = x then d i + d y + 1 else d i) := by
  have px := h.rootOf x hx cx
  have py := h.rootOf y hy cy
  have ha : par (R.link x y).up = fun i => if i = x then y else par R.up i := by
    funext i; exact par_set R.up x y i (by rw [h.lu]; exact hx)
  refine ⟨by simp [RS.link, h.lu], h.wf, by rw [ha]; exact h.forest.link x y hx hy px py hne, fun z hz hcz => ?_⟩
  have hzx : z ≠ x := by
    rintro rfl
    unfold Go.Proofs.Ytafpbdmggnfdnaa.join at hcz
    rw [if_pos cx] at hcz
    exact hne hcz.symm
  have hcz0 : c z = z := by
    unfold Go.Proofs.Ytafpbdmggnfdnaa.join at hcz
    split at hcz
    · rename_i e; subst hcz; exact absurd (cy.symm.trans e).symm hne
    · exact hcz
  have Fz := h.forms z hz hcz0
  refine ⟨Fz.lt, by unfold Go.Proofs.Ytafpbdmggnfdnaa.join; rw [hcz0, if_neg hzx], fun j p q hj hcj hp hq => ?_⟩
  unfold Go.Proofs.Ytafpbdmggnfdnaa.join at hcj
  split at hcj
  · rename_i e
    subst hcj
    have h1 := (h.forms x hx cx).head j p P hj e hp hP
    have h2 := hk h1
    have e2 : some Q = some q := hQ.symm.trans hq
    injection e2 with e2
    rw [← e2]; exact h2
  · exact Fz.head j p q hj hcj hp hq
theorem RInv.link_roots {R : RS} {c d : Nat → Nat} (h : RInv R c d) (x y : Nat) (hx : x < R.nodes.length) (cx : c x = x) (hne : x ≠ y) : nroots (par (R.link x y).up) R.nodes.length + 1 = nroots (par R.up) R.nodes.length := by
  have ha : par (R.link x y).up = fun i => if i = x then y else par R.up i := by
    funext i; exact par_set R.up x y i (by rw [h.lu]; exact hx)
  rw [ha]; exact nroots_link _ x y _ hx (h.rootOf x hx cx) hne

/-- The reference links x to y, or y to x. -/
theorem ref_link {R : RS} {c0 c d : Nat → Nat} {a b p q x y : Nat} {P Q : Nd} {todo : List (Nat × Nat)} (hi : RInv R c d) (h : MInv R.nodes c0 a b c (todo ++ [(p, q)])) (cp : c p = x) (cq : c q = y) (hne : x ≠ y)
    (hP : R.nodes[x]? = some P) (hQ : R.nodes[y]? = some Q) (hh : P.kind ≠ 1 → Q.kind ≠ 1 → Heads P Q)
    (x' y' : Nat) (hxy : (x' = x ∧ y' = y ∧ (P.kind ≠ 1 → Q.kind ≠ 1)) ∨ (x' = y ∧ y' = x ∧ (Q.kind ≠ 1 → P.kind ≠ 1))) :
    ∃ c' d', RInv (R.link x' y') c' d' ∧ MInv R.nodes c0 a b c' (newTodo todo P Q) ∧ (∀ i, c' i = i → c i = i) ∧
      nroots (par (R.link x' y').up) R.nodes.length + 1 = nroots (par R.up) R.nodes.length := by
  have hm : (p, q) ∈ todo ++ [(p, q)] := by simp
  have hl := h.lt _ hm
  have rx := hi.root p hl.1
  have ry := hi.root q hl.2
  rw [cp] at rx; rw [cq] at ry
  have Fx := hi.forms x rx.1 rx.2.2
  have Fy := hi.forms y ry.1 ry.2.2
  have hJ : MInv R.nodes c0 a b (join c x y) (newTodo todo P Q) := by
    refine MInv.join hi.wf h (fun t ht => ?_) (fun t ht => ?_) hm cp cq Fx Fy hP hQ (fun k1 k2 => ⟨hh k1 k2, fun k u v hu hv => ?_⟩)
    · unfold newTodo
      rcases List.mem_append.1 ht with ht | ht
      · split
        · exact .inr ht
        · exact .inr (List.mem_append_left _ ht)
      · simp at ht; exact .inl ht
    · unfold newTodo at ht
      split at ht
      · exact .inl (List.mem_append_left _ ht)
      · rename_i hk
        rcases List.mem_append.1 ht with ht | ht
        · exact .inl (List.mem_append_left _ ht)
        · refine .inr ⟨fun e => hk (.inl e), fun e => hk (.inr e), mem_zip_at ht⟩
    · unfold newTodo
      rw [if_neg (by rintro (e | e); exact k1 e; exact k2 e)]
      exact List.mem_append_right _ (zip_mem_at hu hv)
  have hroots : ∀ u v i, u ≠ v → c v = v → join c u v i = i → c i = i := by
    intro u v i huv cv hj
    unfold Go.Proofs.Ytafpbdmggnfdnaa.join at hj
    split at hj
    · rw [← hj]; exact cv
    · exact hj
  rcases hxy with ⟨rfl, rfl, hk⟩ | ⟨rfl, rfl, hk⟩
  · exact ⟨_, _, hi.link x' y' rx.1 ry.1 rx.2.2 ry.2.2 hne P Q hP hQ hk, hJ, fun i => hroots x' y' i hne ry.2.2, hi.link_roots x' y' rx.1 rx.2.2 hne⟩
  · exact ⟨_, _, hi.link x' y' ry.1 rx.1 ry.2.2 rx.2.2 (Ne.symm hne) Q P hQ hP hk, hJ.congr hi.wf (join_comm _ c _ _) (join_comm _ c _ _), fun i => hroots x' y' i (Ne.symm hne) rx.2.2, hi.link_roots x' y' ry.1 ry.2.2 (Ne.symm hne)⟩

theorem ROk.new : ROk ⟨[], []⟩ (fun i => i) (fun _ => 0) := by
  refine ⟨⟨rfl, fun i p h => by simp at h, ⟨fun i h => ?_, fun i h => ?_, fun i h => ?_, fun i h => ?_⟩, fun x h => ?_⟩, fun i j p q h => by simp at h, ⟨fun i => i, fun i j h => ?_, fun i p h => by simp at h⟩⟩ <;> (simp at h)
theorem ROk.add {R : RS} {c d : Nat → Nat} (h : ROk R c d) (p : Nd) (ha : ∀ a ∈ p.args, a < R.nodes.length) (hk : p.kind = 1 → p.args = []) : ROk (R.add p) (addC R.nodes.length c) (fun i => if i = R.nodes.length then 0 else d i) := by
  have hlen : (R.add p).nodes.length = R.nodes.length + 1 := by simp [RS.add]
  have hc : ∀ i, i < R.nodes.length → c i < R.nodes.length := fun i hi => (h.inv.root i hi).1
  refine ⟨⟨?_, h.inv.wf.add p ha hk, ?_, fun x hx hcx => ?_⟩, h.closed.add h.inv.wf hc p ha, h.acyc.add h.inv.wf hc p ha⟩
  · simp [RS.add, h.inv.lu]
  · rw [hlen]; exact h.inv.forest.add h.inv.lu
  · rw [hlen] at hx
    by_cases e : x = R.nodes.length
    · subst e; exact Form.new _ _ hc p
    · rw [addC_old (by omega)] at hcx
      exact (h.inv.forms x (by omega) hcx).add (by omega) p

/-- A search that calls itself. What holds of the states ahead of a call at a node of root r. -/
def Meas (n : Nat) (c : Nat → Nat) (A : Nat → List Nat) (g : Nat → Nat) : Prop := ∀ m, m < n → c m = m → ∀ x ∈ A m, g (c x) < g m
structure Fine (n : Nat) (c : Nat → Nat) (A : Nat → List Nat) (st fin : Nat → Nat) (t : Nat) : Prop where
  fine : ∀ m, st m = 2 → m < n ∧ (∀ x ∈ A m, st (c x) = 2 ∧ fin (c x) < fin m) ∧ fin m < t
  small : ∀ m, st m ≤ 2
/-- All that is open stands above r. -/
def Above (n : Nat) (c : Nat → Nat) (A : Nat → List Nat) (st : Nat → Nat) (r : Nat) : Prop := ∀ g, Meas n c A g → ∀ m, st m = 1 → g r < g m
section
variable {n : Nat} {c : Nat → Nat} {A : Nat → List Nat} {st fin : Nat → Nat} {t r x : Nat}
theorem Above.none (h : Above n c A st r) (hr : st r = 1) : ¬ ∃ g, Meas n c A g := by
  rintro ⟨g, hg⟩
  have := h g hg r hr
  omega
theorem Above.child (h : Above n c A st r) (hr : r < n) (cr : c r = r) (hx : x ∈ A r) : Above n c A (updN st r 1) (c x) := by
  intro g hg m hm
  have h1 := hg r hr cr x hx
  by_cases e : m = r
  · rw [e]; exact h1
  · rw [updN_other _ _ _ _ e] at hm
    have := h g hg m hm
    omega
theorem Above.same {st' : Nat → Nat} (h : Above n c A st r) (hs : ∀ m, st' m = 1 → st m = 1) : Above n c A st' r := fun g hg m hm => h g hg m (hs m hm)
theorem Fine.open_ (h : Fine n c A st fin t) (h0 : st r = 0) : Fine n c A (updN st r 1) fin t := by
  refine ⟨fun m hm => ?_, fun m => ?_⟩
  · by_cases e : m = r
    · rw [e, updN_same] at hm; cases hm
    · rw [updN_other _ _ _ _ e] at hm
      obtain ⟨h1, h2, h3⟩ := h.fine m hm
      refine ⟨h1, fun x hx => ⟨?_, (h2 x hx).2⟩, h3⟩
      have := (h2 x hx).1
      by_cases e2 : c x = r
      · rw [e2, h0] at this; cases this
      · rw [updN_other _ _ _ _ e2]; exact this
  · unfold updN; split
    · decide
    · exact h.small m
theorem Fine.close (h : Fine n c A st fin t) (h1 : st r = 1) (hr : r < n) (hall : ∀ x ∈ A r, st (c x) = 2) : Fine n c A (updN st r 2) (updN fin r t) (t + 1) := by
  have hne : ∀ y, st y = 2 → y ≠ r := by rintro y hy rfl; rw [h1] at hy; cases hy
  refine ⟨fun m hm => ?_, fun m => ?_⟩
  · by_cases e : m = r
    · subst e
      rw [updN_same]
      refine ⟨hr, fun x hx => ?_, by omega⟩
      have h2 := hall x hx
      rw [updN_other _ _ _ _ (hne _ h2), updN_other _ _ _ _ (hne _ h2)]
      exact ⟨h2, (h.fine _ h2).2.2⟩
    · rw [updN_other _ _ _ _ e] at hm ⊢
      obtain ⟨k1, k2, k3⟩ := h.fine m hm
      refine ⟨k1, fun x hx => ?_, by omega⟩
      have h2 := (k2 x hx).1
      rw [updN_other _ _ _ _ (hne _ h2), updN_other _ _ _ _ (hne _ h2)]
      exact k2 x hx
  · unfold updN; split
    · decide
    · exact h.small m
end
/-- What a search that has found nothing tells of the states. -/
structure Went (st st' : Nat → Nat) : Prop where
  opened : ∀ m, st' m = 1 ↔ st m = 1
  kept : ∀ m, st m = 2 → st' m = 2
theorem Went.refl (st : Nat → Nat) : Went st st := ⟨fun _ => Iff.rfl, fun _ h => h⟩
theorem Went.trans {a b c : Nat → Nat} (h : Went a b) (k : Went b c) : Went a c := ⟨fun m => (k.opened m).trans (h.opened m), fun m hm => k.kept m (h.kept m hm)⟩
theorem Went.close {st st' : Nat → Nat} {r : Nat} (h : Went (updN st r 1) st') (h0 : st r = 0) : Went st (updN st' r 2) := by
  refine ⟨fun m => ?_, fun m hm => ?_⟩
  · by_cases e : m = r
    · subst e; rw [updN_same, h0]; simp
    · rw [updN_other _ _ _ _ e, h.opened, updN_other _ _ _ _ e]
  · by_cases e : m = r
    · subst e; rw [updN_same]
    · rw [updN_other _ _ _ _ e]
      exact h.kept m (by rw [updN_other _ _ _ _ e]; exact hm)
theorem Went.zeros {st st' : Nat → Nat} {n : Nat} (h : Went st st') (hs : ∀ m, st' m ≤ 2) (h2 : ∀ m, st m ≤ 2) : zeros st' n ≤ zeros st n := by
  induction n with
  | zero => simp [Go.Proofs.Ytafpbdmggnfdnaa.zeros]
  | succ n ih =>
    unfold Go.Proofs.Ytafpbdmggnfdnaa.zeros
    by_cases e : st n = 0
    · rw [if_pos e]; split <;> omega
    · have h3 := h2 n
      have h4 : st' n ≠ 0 := by
        rcases (show st n = 1 ∨ st n = 2 by omega) with h5 | h5
        · rw [(h.opened n).2 h5]; decide
        · rw [h.kept n h5]; decide
      rw [if_neg e, if_neg h4]; exact ih

/-- Two answers of Unify to the same, of stores whose classes are the same. -/
theorem UniSame {N : List Nd} {c c1 c' c1' : Nat → Nat} {a b : Nat} (h01 : Resp N.length c c1) (h10 : Resp N.length c1 c) (hl : Least N c a b c') (hl1 : Least N c1 a b c1') : Resp N.length c' c1' ∧ Resp N.length c1' c' := Least.same hl hl1 h01 h10
theorem Good.of_resp {N : List Nd} {c c1 e : Nat → Nat} {a b : Nat} (h : Good N c a b e) (h10 : Resp N.length c1 c) : Good N c1 a b e := ⟨fun i j hi hj hij => h.resp i j hi hj (h10 i j hi hj hij), h.ab, h.closed⟩
end Go.Proofs.Ytafpbdmggnfdnaa

/- Plain: what a script does to a store. -/
namespace Go.Proofs.Ytafpbdmggnfdnaa
set_option linter.unusedVariables false

/-- A call of a script, and where its arguments lie. -/
structure OpV where
  what : Int
  name : ByteArray
  args : List Int
  ad : Option Addr
  cap : Nat
def placed1 (made : List Nat) (x : Int) : Int := if 0 ≤ x ∧ x < (made.length : Int) then (par made x.toNat : Int) else x
def placedL (args : List Int) (made : List Nat) : List Int := args.map (placed1 made)
def fst2 : List Int → Int
  | a :: _ :: _ => a
  | _ => -1
def snd2 : List Int → Int
  | _ :: b :: _ => b
  | _ => -1
inductive MakeOp (o : OpV) (made : List Nat) : Int → ByteArray → List Int → Prop where
  | con (h : o.what = 2) : MakeOp o made 2 o.name (placedL o.args made)
  | pair (h : o.what = 3) : MakeOp o made 3 ByteArray.empty (placedL o.args made)
  | arrow (h : o.what = 4) : MakeOp o made 4 ByteArray.empty [fst2 (placedL o.args made), snd2 (placedL o.args made)]
inductive StepR (o : OpV) (N : List Nd) (made : List Nat) (c : Nat → Nat) : List Nd → List Nat → (Nat → Nat) → Prop where
  | var (h : o.what = 1) : StepR o N made c (N ++ [varNd]) (made ++ [N.length]) (addC N.length c)
  | make {k : Int} {nm : ByteArray} {xs : List Int} (h : MakeOp o made k nm xs) : StepR o N made c (makeN N k nm xs) (if makeErr N.length k nm xs = 0 then made ++ [N.length] else made) (makeC N c k nm xs)
  | uni {err : Int} {c1 : Nat → Nat} (h : o.what = 5) (hu : UniSaid N c (fst2 (placedL o.args made)) (snd2 (placedL o.args made)) err c1) (hc : ∀ i, i < N.length → c1 i < N.length) (ha : Acyc N c1) : StepR o N made c N made c1
  | none (h : o.what < 1 ∨ 5 < o.what) : StepR o N made c N made c
/-- What the calls, the last one first, have made. -/
def RunsR : List OpV → List Nd → List Nat → (Nat → Nat) → Prop
  | [], N, made, c => N = [] ∧ made = [] ∧ c = fun i => i
  | o :: rest, N, made, c => ∃ N0 made0 c0, RunsR rest N0 made0 c0 ∧ StepR o N0 made0 c0 N made c
def SameC (N : List Nd) (c c' : Nat → Nat) : Prop := Resp N.length c c' ∧ Resp N.length c' c
theorem SameC.refl (N : List Nd) (c : Nat → Nat) : SameC N c c := ⟨fun _ _ _ _ e => e, fun _ _ _ _ e => e⟩
theorem SameC.symm {N : List Nd} {c c' : Nat → Nat} (h : SameC N c c') : SameC N c' c := ⟨h.2, h.1⟩
theorem SameC.trans {N : List Nd} {c c' c2 : Nat → Nat} (h : SameC N c c') (k : SameC N c' c2) : SameC N c c2 := ⟨fun i j hi hj e => k.1 i j hi hj (h.1 i j hi hj e), fun i j hi hj e => h.2 i j hi hj (k.2 i j hi hj e)⟩
theorem SameC.add {N : List Nd} {c c' : Nat → Nat} (h : SameC N c c') (hc : ∀ i, i < N.length → c i < N.length) (hc' : ∀ i, i < N.length → c' i < N.length) (p : Nd) : SameC (N ++ [p]) (addC N.length c) (addC N.length c') := by
  have key : ∀ (c c' : Nat → Nat), Resp N.length c c' → (∀ i, i < N.length → c i < N.length) → Resp (N ++ [p]).length (addC N.length c) (addC N.length c') := by
    intro c c' h hc i j hi hj e
    simp only [List.length_append, List.length_singleton] at hi hj
    by_cases ei : i = N.length <;> by_cases ej : j = N.length
    · rw [ei, ej]
    · subst ei; rw [addC_new, addC_old (by omega)] at e; have := hc j (by omega); omega
    · subst ej; rw [addC_new, addC_old (by omega)] at e; have := hc i (by omega); omega
    · rw [addC_old (by omega), addC_old (by omega)] at e ⊢; exact h i j (by omega) (by omega) e
  exact ⟨key c c' h.1 hc, key c' c h.2 hc'⟩
/-- Two stores with the same classes answer Unify alike, in either order. -/
theorem uni_same {N : List Nd} {c c1 c' c1' : Nat → Nat} {a b a1 b1 err err1 : Int} (hs : SameC N c c1) (hab : (a1 = a ∧ b1 = b) ∨ (a1 = b ∧ b1 = a)) (h : UniSaid N c a b err c') (h1 : UniSaid N c1 a1 b1 err1 c1') (ha : Acyc N c') (ha1 : Acyc N c1') : err = err1 ∧ SameC N c' c1' := by
  have hall : allIn N.length [a1, b1] = allIn N.length [a, b] := by
    rcases hab with ⟨rfl, rfl⟩ | ⟨rfl, rfl⟩
    · rfl
    · simp [allIn, Bool.and_comm]
  have gsym : ∀ {c0 : Nat → Nat} {x y : Nat} {e : Nat → Nat}, Good N c0 x y e → Good N c0 y x e := fun g => ⟨g.resp, g.ab.symm, g.closed⟩
  have lsym : ∀ {c0 : Nat → Nat} {x y : Nat} {e : Nat → Nat}, Least N c0 x y e → Least N c0 y x e := fun l => ⟨gsym l.good, fun e he => l.least e (gsym he)⟩
  have gto : ∀ {e : Nat → Nat}, Good N c1 a1.toNat b1.toNat e → Good N c a.toNat b.toNat e := by
    intro e g
    have g2 : Good N c1 a.toNat b.toNat e := by
      rcases hab with ⟨rfl, rfl⟩ | ⟨rfl, rfl⟩
      · exact g
      · exact gsym g
    exact g2.of_resp hs.1
  have gfrom : ∀ {e : Nat → Nat}, Good N c a.toNat b.toNat e → Good N c1 a1.toNat b1.toNat e := by
    intro e g
    have g2 : Good N c1 a.toNat b.toNat e := g.of_resp hs.2
    rcases hab with ⟨rfl, rfl⟩ | ⟨rfl, rfl⟩
    · exact g2
    · exact gsym g2
  have lto : ∀ {e : Nat → Nat}, Least N c1 a1.toNat b1.toNat e → Least N c a.toNat b.toNat e := fun l => ⟨gto l.good, fun e he => l.least e (gfrom he)⟩
  have lsame : ∀ {e e1 : Nat → Nat}, Least N c a.toNat b.toNat e → Least N c1 a1.toNat b1.toNat e1 → SameC N e e1 := by
    intro e e1 l l1
    have := Least.same l (lto l1) (fun _ _ _ _ h => h) (fun _ _ _ _ h => h)
    exact this
  rcases h with ⟨h0, h2, h3⟩ | ⟨h0, h2⟩
  · rcases h1 with ⟨k0, k2, k3⟩ | ⟨k0, k2⟩
    · exact ⟨by rw [h2, k2], by rw [h3, k3]; exact hs⟩
    · rw [hall, h0] at k0; cases k0
  · rcases h1 with ⟨k0, k2, k3⟩ | ⟨k0, k2⟩
    · rw [hall, h0] at k0; cases k0
    · rcases h2 with ⟨rfl, hl⟩ | ⟨rfl, rfl, hn⟩ | ⟨rfl, rfl, cl, hl, hn⟩
      · rcases k2 with ⟨rfl, kl⟩ | ⟨rfl, rfl, kn⟩ | ⟨rfl, rfl, ck, kl, kn⟩
        · exact ⟨rfl, lsame hl kl⟩
        · exact absurd (gfrom hl.good) (kn _)
        · exact absurd (ha.of (lsame hl kl).2) kn
      · rcases k2 with ⟨rfl, kl⟩ | ⟨rfl, rfl, kn⟩ | ⟨rfl, rfl, ck, kl, kn⟩
        · exact absurd (gto kl.good) (hn _)
        · exact ⟨rfl, hs⟩
        · exact absurd (gto kl.good) (hn _)
      · rcases k2 with ⟨rfl, kl⟩ | ⟨rfl, rfl, kn⟩ | ⟨rfl, rfl, ck, kl, kn⟩
        · exact absurd (ha1.of (lsame hl kl).1) hn
        · exact absurd (gfrom hl.good) (kn _)
        · exact ⟨rfl, hs⟩
theorem makeN_len (N : List Nd) (k : Int) (nm : ByteArray) (xs : List Int) : (makeN N k nm xs).length = if makeErr N.length k nm xs = 0 then N.length + 1 else N.length := by
  unfold makeN; split <;> simp
theorem RunsR.facts : ∀ {ops : List OpV} {N : List Nd} {made : List Nat} {c : Nat → Nat}, RunsR ops N made c → (∀ x ∈ made, x < N.length) ∧ (∀ i, i < N.length → c i < N.length) ∧ N.length ≤ ops.length ∧ made.length ≤ ops.length
  | [], N, made, c, h => by
    obtain ⟨rfl, rfl, rfl⟩ := h
    simp
  | o :: rest, N, made, c, ⟨N0, made0, c0, h, hs⟩ => by
    obtain ⟨h1, h2, h3, h4⟩ := RunsR.facts h
    have hadd : ∀ i, i < N0.length + 1 → addC N0.length c0 i < N0.length + 1 := by
      intro i hi
      by_cases e : i = N0.length
      · rw [e, addC_new]; omega
      · rw [addC_old (by omega)]; have := h2 i (by omega); omega
    have hmade : ∀ x ∈ made0 ++ [N0.length], x < N0.length + 1 := by
      intro x hx
      rcases List.mem_append.1 hx with hx | hx
      · have := h1 x hx; omega
      · simp at hx; omega
    cases hs with
    | var _ =>
      refine ⟨by simpa using hmade, by simpa using hadd, ?_, ?_⟩ <;> (simp; omega)
    | @make k nm xs hm =>
      rw [makeN_len]
      unfold makeC
      by_cases he : makeErr N0.length k nm xs = 0
      · rw [if_pos he, if_pos he, if_pos he]
        refine ⟨hmade, hadd, ?_, ?_⟩
        · simp; omega
        · simp; omega
      · rw [if_neg he, if_neg he, if_neg he]
        refine ⟨h1, h2, ?_, ?_⟩ <;> (simp; omega)
    | uni _ _ hc _ => exact ⟨h1, hc, by simp; omega, by simp; omega⟩
    | none _ => exact ⟨h1, h2, by simp; omega, by simp; omega⟩
theorem MakeOp.kind {o : OpV} {made : List Nat} {k : Int} {nm : ByteArray} {xs : List Int} (h : MakeOp o made k nm xs) : o.what = k ∧ (k = 2 ∨ k = 3 ∨ k = 4) := by
  cases h with
  | con h => exact ⟨h, .inl rfl⟩
  | pair h => exact ⟨h, .inr (.inl rfl)⟩
  | arrow h => exact ⟨h, .inr (.inr rfl)⟩
theorem MakeOp.same {o : OpV} {made : List Nat} {k k1 : Int} {nm nm1 : ByteArray} {xs xs1 : List Int} (h : MakeOp o made k nm xs) (h1 : MakeOp o made k1 nm1 xs1) : k = k1 ∧ nm = nm1 ∧ xs = xs1 := by
  have hk : k = k1 := h.kind.1.symm.trans h1.kind.1
  subst hk
  cases h with
  | con h =>
    cases h1 with
    | con _ => exact ⟨rfl, rfl, rfl⟩
  | pair h =>
    cases h1 with
    | pair _ => exact ⟨rfl, rfl, rfl⟩
  | arrow h =>
    cases h1 with
    | arrow _ => exact ⟨rfl, rfl, rfl⟩
theorem StepR.same {o : OpV} {N N1 N2 : List Nd} {made made1 made2 : List Nat} {c c0 c1 c2 : Nat → Nat} (hs : SameC N c c0) (hc : ∀ i, i < N.length → c i < N.length) (hc0 : ∀ i, i < N.length → c0 i < N.length) (h : StepR o N made c N1 made1 c1) (h' : StepR o N made c0 N2 made2 c2) : N1 = N2 ∧ made1 = made2 ∧ SameC N1 c1 c2 := by
  cases h with
  | var h =>
    cases h' with
    | var _ => exact ⟨rfl, rfl, hs.add hc hc0 _⟩
    | make hm => have := hm.kind; omega
    | uni k _ _ _ => omega
    | none k => omega
  | @make k nm xs hm =>
    cases h' with
    | var k => have := hm.kind; omega
    | make hm' =>
      obtain ⟨rfl, rfl, rfl⟩ := hm.same hm'
      refine ⟨rfl, rfl, ?_⟩
      unfold makeN makeC
      split
      · exact hs.add hc hc0 _
      · exact hs
    | uni k _ _ _ => have := hm.kind; omega
    | none k => have := hm.kind; omega
  | uni h hu _ ha =>
    cases h' with
    | var k => omega
    | make hm' => have := hm'.kind; omega
    | uni _ hu' _ ha' => exact ⟨rfl, rfl, (uni_same hs (.inl ⟨rfl, rfl⟩) hu hu' ha ha').2⟩
    | none k => omega
  | none h =>
    cases h' with
    | var k => omega
    | make hm' => have := hm'.kind; omega
    | uni k _ _ _ => omega
    | none _ => exact ⟨rfl, rfl, hs⟩
theorem RunsR.same : ∀ {ops : List OpV} {N N' : List Nd} {made made' : List Nat} {c c' : Nat → Nat}, RunsR ops N made c → RunsR ops N' made' c' → N = N' ∧ made = made' ∧ SameC N c c'
  | [], N, N', made, made', c, c', h, h' => by
    obtain ⟨rfl, rfl, rfl⟩ := h
    obtain ⟨rfl, rfl, rfl⟩ := h'
    exact ⟨rfl, rfl, SameC.refl _ _⟩
  | o :: rest, N, N', made, made', c, c', ⟨N0, made0, c0, h, hs⟩, ⟨N1, made1, c1, h', hs'⟩ => by
    obtain ⟨rfl, rfl, hsc⟩ := RunsR.same h h'
    exact hs.same hsc h.facts.2.1 h'.facts.2.1 hs'
theorem take_rev (ops : List OpV) (k : Nat) (hk : k < ops.length) : (ops.take (k + 1)).reverse = ops[k] :: (ops.take k).reverse := by
  rw [List.take_succ_eq_append_getElem hk, List.reverse_append]; rfl
end Go.Proofs.Ytafpbdmggnfdnaa

/- The reference's store in memory: find, is, CopyInts. -/
namespace Go.Proofs.Ytafpbdmggnfdnaa
open Go.RowKit
set_option linter.unusedVariables false

def linkOf (up : List Nat) (i : Nat) : Int := if par up i = i then -1 else (par up i : Int)
def links (up : List Nat) : List Int := (List.range up.length).map (linkOf up)
def rnCell (p : Nd) (a : Option Addr × Nat) (l : Int) : List Value := [.int .i64 p.kind, .string p.name, .slice a.1 p.args.length a.2, .int .i64 l]
def rnCells : List Nd → List (Option Addr × Nat) → List Int → List Value
  | p :: N, a :: ad, l :: ls => rnCell p a l ++ rnCells N ad ls
  | _, _, _ => []
theorem rnCells_length : ∀ (N : List Nd) (ad : List (Option Addr × Nat)) (ls : List Int), ad.length = N.length → ls.length = N.length → (rnCells N ad ls).length = N.length * 4
  | [], _, _, _, _ => by simp [rnCells]
  | p :: N, [], _, h, _ => by simp at h
  | p :: N, a :: ad, [], _, h => by simp at h
  | p :: N, a :: ad, l :: ls, h, k => by
    have := rnCells_length N ad ls (by simpa using h) (by simpa using k)
    simp only [rnCells, rnCell, List.length_append, List.length_cons, List.length_nil, this]; omega
theorem rnCells_snoc (p : Nd) (a : Option Addr × Nat) (l : Int) : ∀ (N : List Nd) (ad : List (Option Addr × Nat)) (ls : List Int), ad.length = N.length → ls.length = N.length → rnCells (N ++ [p]) (ad ++ [a]) (ls ++ [l]) = rnCells N ad ls ++ rnCell p a l
  | [], [], [], _, _ => by simp [rnCells]
  | [], a :: _, _, h, _ => by simp at h
  | [], [], l :: _, _, h => by simp at h
  | q :: N, [], _, h, _ => by simp at h
  | q :: N, b :: ad, [], _, h => by simp at h
  | q :: N, b :: ad, m :: ls, h, k => by
    simp only [List.cons_append, rnCells]
    rw [rnCells_snoc p a l N ad ls (by simpa using h) (by simpa using k), List.append_assoc]
theorem rnCells_at : ∀ (N : List Nd) (ad : List (Option Addr × Nat)) (ls : List Int) (f : Nat) (p : Nd) (a : Option Addr × Nat) (l : Int), N[f]? = some p → ad[f]? = some a → ls[f]? = some l →
    (rnCells N ad ls)[f * 4]? = some (.int .i64 p.kind) ∧ (rnCells N ad ls)[f * 4 + 1]? = some (.string p.name) ∧ (rnCells N ad ls)[f * 4 + 2]? = some (.slice a.1 p.args.length a.2) ∧ (rnCells N ad ls)[f * 4 + 3]? = some (.int .i64 l)
  | [], _, _, f, p, a, l, h, _, _ => by simp at h
  | q :: N, [], _, f, p, a, l, _, h, _ => by simp at h
  | q :: N, b :: ad, [], f, p, a, l, _, _, h => by simp at h
  | q :: N, b :: ad, m :: ls, 0, p, a, l, h1, h2, h3 => by
    simp at h1 h2 h3; subst h1; subst h2; subst h3; simp [rnCells, rnCell]
  | q :: N, b :: ad, m :: ls, f + 1, p, a, l, h1, h2, h3 => by
    simp at h1 h2 h3
    obtain ⟨g1, g2, g3, g4⟩ := rnCells_at N ad ls f p a l h1 h2 h3
    have e : ∀ j, (rnCells (q :: N) (b :: ad) (m :: ls))[j + 4]? = (rnCells N ad ls)[j]? := by
      intro j; simp only [rnCells, rnCell]; simp
    exact ⟨by rw [show (f + 1) * 4 = f * 4 + 4 by omega, e]; exact g1, by rw [show (f + 1) * 4 + 1 = f * 4 + 1 + 4 by omega, e]; exact g2, by rw [show (f + 1) * 4 + 2 = f * 4 + 2 + 4 by omega, e]; exact g3, by rw [show (f + 1) * 4 + 3 = f * 4 + 3 + 4 by omega, e]; exact g4⟩
theorem rnCells_set : ∀ (N : List Nd) (ad : List (Option Addr × Nat)) (ls : List Int) (f : Nat) (l : Int), ad.length = N.length → ls.length = N.length → rnCells N ad (ls.set f l) = (rnCells N ad ls).set (f * 4 + 3) (.int .i64 l)
  | [], _, _, f, l, _, _ => by simp [rnCells]
  | q :: N, [], _, f, l, h, _ => by simp at h
  | q :: N, b :: ad, [], f, l, _, h => by simp at h
  | q :: N, b :: ad, m :: ls, 0, l, _, _ => by simp [rnCells, rnCell]
  | q :: N, b :: ad, m :: ls, f + 1, l, h, k => by
    rw [List.set_cons_succ]
    simp only [rnCells]
    rw [rnCells_set N ad ls f l (by simpa using h) (by simpa using k), show (f + 1) * 4 + 3 = f * 4 + 3 + 4 by omega]
    simp [rnCell]
theorem links_length (up : List Nat) : (links up).length = up.length := by simp [links]
theorem links_at (up : List Nat) (i : Nat) (hi : i < up.length) : (links up)[i]? = some (linkOf up i) := by
  unfold links; rw [List.getElem?_map, List.getElem?_range hi]; rfl
theorem links_snoc (up : List Nat) : links (up ++ [up.length]) = links up ++ [-1] := by
  unfold links
  rw [List.length_append, List.length_singleton, List.range_succ, List.map_append]
  congr 1
  · refine List.map_congr_left fun i hi => ?_
    have hi' : i < up.length := by simpa using hi
    have e : par (up ++ [up.length]) i = par up i := by rw [par_append, if_neg (by omega)]
    unfold linkOf
    rw [e]
  · simp only [List.map_cons, List.map_nil, linkOf]
    rw [par_append, if_pos rfl, if_pos rfl]
theorem links_set (up : List Nat) (x y : Nat) (hx : x < up.length) (hne : x ≠ y) : links (up.set x y) = (links up).set x (y : Int) := by
  refine List.ext_getElem? fun i => ?_
  by_cases hi : i < up.length
  · rw [links_at _ _ (by simpa using hi), List.getElem?_set]
    unfold linkOf
    rw [par_set _ _ _ _ hx]
    by_cases e : i = x
    · subst e
      rw [if_pos rfl, if_neg (fun e => hne e.symm), if_pos rfl, if_pos (by rw [links_length]; exact hi)]
    · rw [if_neg e, links_at _ _ hi]
      conv => rhs; rw [if_neg (fun h => e h.symm)]
      rfl
  · rw [List.getElem?_eq_none (by rw [links_length, List.length_set]; omega), List.getElem?_eq_none (by rw [List.length_set, links_length]; omega)]

/-- The reference's store in memory: the slice v, the addresses of the nodes' arguments. -/
structure RSt (w : World) (v : Value) (ad : List (Option Addr × Nat)) (R : RS) : Prop where
  own : w.ownsRow 0 91 4 v R.nodes.length (rnCells R.nodes ad (links R.up))
  lad : ad.length = R.nodes.length
  lup : R.up.length = R.nodes.length
  args : ∀ (i : Nat) (p : Nd) (a : Option Addr × Nat), R.nodes[i]? = some p → ad[i]? = some a → Nats w a.1 p.args ∧ ∀ x, a.1 = some x → x.block < w.heap.size ∧ v.ownBlock ≠ some x.block
  many : R.nodes.length ≤ 1000000
  few : ∀ (i : Nat) (p : Nd), R.nodes[i]? = some p → p.args.length ≤ 1000000
section
variable {w w' : World} {v : Value} {ad : List (Option Addr × Nat)} {R : RS}
theorem RSt.only {F : Nat → Prop} (h : RSt w v ad R) (ho : Only F w w') (hv : ∀ b, v.ownBlock = some b → ¬ F b) (hA : ∀ (i : Nat) (a : Option Addr × Nat), ad[i]? = some a → ∀ x, a.1 = some x → ¬ F x.block) : RSt w' v ad R :=
  ⟨own_only h.own ho hv, h.lad, h.lup, fun i p a hi ha => ⟨Ints.only (h.args i p a hi ha).1 ho (hA i a ha), fun x hx => ⟨Nat.lt_of_lt_of_le ((h.args i p a hi ha).2 x hx).1 ho.size, ((h.args i p a hi ha).2 x hx).2⟩⟩, h.many, h.few⟩
theorem RSt.later (h : RSt w v ad R) (hb : Below w.heap.size w w') : RSt w' v ad R := h.only (Only.of_below hb (fun _ => False)) (fun _ _ hf => hf.elim) (fun _ _ _ _ _ hf => hf.elim)
theorem RSt.drew (h : RSt w v ad R) : RSt w.drew v ad R := ⟨h.own, h.lad, h.lup, h.args, h.many, h.few⟩
theorem RSt.drewN (h : RSt w v ad R) (n : Nat) : RSt (w.drewN n) v ad R := ⟨h.own, h.lad, h.lup, h.args, h.many, h.few⟩
theorem RSt.node (h : RSt w v ad R) {f : Nat} (hf : f < R.nodes.length) {g cap m : Nat} (hv : v = .slice (some ⟨g, 0, none⟩) m cap) :
    ∃ p a, R.nodes[f]? = some p ∧ ad[f]? = some a ∧ w.cell? ⟨g, f * 4, none⟩ = some (.int .i64 p.kind) ∧ w.cell? ⟨g, f * 4 + 1, none⟩ = some (.string p.name) ∧ w.cell? ⟨g, f * 4 + 2, none⟩ = some (.slice a.1 p.args.length a.2) ∧ w.cell? ⟨g, f * 4 + 3, none⟩ = some (.int .i64 (linkOf R.up f)) := by
  have hp : R.nodes[f]? = some R.nodes[f] := List.getElem?_eq_getElem hf
  have ha : ad[f]? = some (ad[f]'(by rw [h.lad]; exact hf)) := List.getElem?_eq_getElem _
  obtain ⟨h1, h2, h3, h4⟩ := rnCells_at _ _ _ f _ _ _ hp ha (links_at R.up f (by rw [h.lup]; exact hf))
  have c : ∀ j u, (rnCells R.nodes ad (links R.up))[j]? = some u → w.cell? ⟨g, j, none⟩ = some u := by
    intro j u hu
    have := h.own.cells (g := g) (by rw [hv]; rfl) j u hu
    rwa [addr_add', Nat.zero_add] at this
  exact ⟨_, _, hp, ha, c _ _ h1, c _ _ h2, c _ _ h3, c _ _ h4⟩
theorem RSt.linkAt (h : RSt w v ad R) {g cap m : Nat} (hv : v = .slice (some ⟨g, 0, none⟩) m cap) (f : Nat) (hf : f < R.nodes.length) : w.cell? ⟨g, f * 4 + 3, none⟩ = some (.int .i64 (linkOf R.up f)) := by
  obtain ⟨_, _, _, _, _, _, _, h4⟩ := h.node hf hv
  exact h4
theorem RSt.free (h : RSt w v ad R) {b m cap : Nat} (e : v = .slice (some ⟨b, 0, none⟩) m cap) (j : Nat) : w.frozen? ⟨b, j, none⟩ = false := by
  rcases h.own.2 with ⟨h1, _⟩ | ⟨g, cap', cur, h1, _, h3, _⟩
  · rw [e] at h1; cases h1
  · rw [e] at h1
    injection h1 with h1 _ _
    injection h1 with h1
    injection h1 with h1
    subst h1
    simp [World.frozen?, h3]
theorem RSt.lt (h : RSt w v ad R) (b : Nat) (hb : v.ownBlock = some b) : b < w.heap.size := (h.own.lt b hb).2
theorem RSt.adlt (h : RSt w v ad R) (i : Nat) (a : Option Addr × Nat) (ha : ad[i]? = some a) (x : Addr) (hx : a.1 = some x) : x.block < w.heap.size := by
  have hi : i < R.nodes.length := by rw [← h.lad]; exact (List.getElem?_eq_some_iff.1 ha).1
  exact ((h.args i _ a (List.getElem?_eq_getElem hi) ha).2 x hx).1
end

set_option maxHeartbeats 1000000 in
theorem rfind_any {w : World} {v : Value} {ad : List (Option Addr × Nat)} {R : RS} {c d : Nat → Nat} (h : RSt w v ad R) (hf : Forest R.nodes.length (par R.up) c d) (i : Nat) (hi : i < R.nodes.length) :
    Calls Try.prog 60 #[.agg #[v], .int .i64 (i : Int)] w fun e w' => e = .returned (.int .i64 (c i : Int)) ∧ Below w.heap.size w w' := by
  obtain ⟨g, cap, hv, hcap⟩ := own_pos h.own (by omega)
  have hm := h.many
  have HA := hide (fun k (hk : k < R.nodes.length) => h.linkAt hv k hk)
  have hgl : g < w.heap.size := h.lt g (by rw [hv]; rfl)
  subst hv
  clear h
  go_enter Try.func60, Try.ntmps60
  go_wp2
  go_loop [1] (fun v => ∃ k : Nat, v = .int .i64 k ∧ k < R.nodes.length ∧ Hid (c k = c i)) (fun v => d (intOf v).toNat)
  case atStart => exact ⟨i, rfl, hi, hide rfl⟩
  case round =>
    obtain ⟨k, rfl, hk, HC⟩ := hrel
    have hcell := HA.out k hk
    unfold linkOf at hcell
    by_cases he : par R.up k = k
    · rw [if_pos he] at hcell
      have Hm : Hid (k = c i) := hide ((hf.root k hk he).symm.trans HC.out)
      clear he
      go_wp2
      go_ret
      exact ⟨ret_int (by rw [← Hm.out]), (Below.refl _ _).alloc (Nat.le_refl _) _⟩
    · rw [if_neg he] at hcell
      have hmn := hf.lt k hk
      have Hsame := hide (hf.same k hk)
      have Hfall := hide (hf.fall k hk he)
      clear he
      generalize par R.up k = m at *
      go_wp2
      go_round
      case rel => exact ⟨m, rfl, hmn, hide (Hsame.out.trans HC.out)⟩
      case measure => simp only [intOf, Int.toNat_natCast]; exact Hfall.out

def inB (n : Nat) (x : Int) : Bool := decide (0 ≤ x ∧ x < (n : Int))
theorem ris_any {w : World} {v : Value} {ad : List (Option Addr × Nat)} {R : RS} (h : RSt w v ad R) (x : Int) :
    Calls Try.prog 39 #[.agg #[v], .int .i64 x] w fun e w' => e = .returned (.bool (inB R.nodes.length x)) ∧ Below w.heap.size w w' := by
  obtain ⟨A, cap, hv, _, _⟩ := own_len h.own
  have hm := h.many
  subst hv
  clear h
  rcases (show x < 0 ∨ (0 ≤ x ∧ x < (R.nodes.length : Int)) ∨ (0 ≤ x ∧ (R.nodes.length : Int) ≤ x) by omega) with h1 | ⟨h1, h2⟩ | ⟨h1, h2⟩
  · have HB : Hid (inB R.nodes.length x = false) := hide (by simp [inB]; omega)
    have k1 : decide ((0 : Int) ≤ x) = false := by simp; omega
    go_enter Try.func39, Try.ntmps39
    go_wp2
    go_ret
    exact ⟨ret_bool HB.out.symm, (Below.refl _ _).alloc (Nat.le_refl _) _⟩
  · have HB : Hid (inB R.nodes.length x = true) := hide (by simp [inB]; omega)
    have k1 : decide ((0 : Int) ≤ x) = true := by simp; omega
    have k2 : decide (x < (R.nodes.length : Int)) = true := by simp; omega
    go_enter Try.func39, Try.ntmps39
    go_wp2
    go_ret
    exact ⟨ret_bool HB.out.symm, (Below.refl _ _).alloc (Nat.le_refl _) _⟩
  · have HB : Hid (inB R.nodes.length x = false) := hide (by simp [inB]; omega)
    have k1 : decide ((0 : Int) ≤ x) = true := by simp; omega
    have k2 : decide (x < (R.nodes.length : Int)) = false := by simp; omega
    go_enter Try.func39, Try.ntmps39
    go_wp2
    go_ret
    exact ⟨ret_bool HB.out.symm, (Below.refl _ _).alloc (Nat.le_refl _) _⟩

set_option maxHeartbeats 1000000 in
theorem copyInts_any (A : Option Addr) (c : Nat) (xs : List Int) (w : World) (h : Ints w A xs) (hl : xs.length ≤ 1000000) : Calls Try.prog 16 #[.slice A xs.length c] w (NewInts w xs) := by
  obtain ⟨i1, ki, kz0, kz1, kz2⟩ := info_parts intInfo
  have Ki := hide ki; have Kz0 := hide kz0; have Kz1 := hide kz1; have Kz2 := hide kz2
  clear ki kz0 kz1 kz2
  have HO := hide (World.ownsRow_made (base := w.heap.size) (e := 3) (size := 1) w #[] 0 (Nat.le_refl _) (Nat.zero_le _) rfl)
  rcases A with _ | a
  · have hx : xs = [] := by
      rcases xs with _ | ⟨x, xs⟩
      · rfl
      · obtain ⟨b, off, e, _⟩ := h (by simp); cases e
    subst hx
    go_enter Try.func16, Try.ntmps16
    go_wp2_with (at_builtin; refine wpList_append_nothing rfl (.tmp 5) (.tmp 6) 30 rfl w.heap.size 3 i1 1 Try.underlying30 Ki.out (.slice (some ⟨w.heap.size, 0, none⟩) 0 0) 0 [] rfl HO.out c rfl ?_)
    go_ret
    exact ⟨_, 0, rfl, fun hne => absurd rfl hne, (fun x hx => by injection hx with hx; rw [← hx]; simp), (Below.refl _ _).alloc (Nat.le_refl _) _⟩
  · have HC := hide (ints_cells h 3)
    have H1 : Hid (∀ u ∈ xs.map (Value.int .i64), u.oneCell' = true) := hide (ints_oneCell .i64 xs)
    go_enter Try.func16, Try.ntmps16
    go_wp2_with (at_builtin; refine wpList_append_own _ rfl (.tmp 5) (.tmp 6) 30 rfl w.heap.size 3 i1 (.int .i64 0) 1 8 Try.underlying30 Ki.out Kz0.out Kz1.out Kz2.out rfl (by decide) (.slice (some ⟨w.heap.size, 0, none⟩) 0 0) 0 [] rfl HO.out a xs.length c (xs.map (Value.int .i64)) rfl (by simp) HC.out H1.out (by unfold maxLen; omega) (by omega) (by simp) ?_; intro v' w1 hown hgrow hnil)
    go_ret
    simp only [Nat.zero_add, List.nil_append] at hown
    obtain ⟨A', c', rfl, hI, hB⟩ := ints_of_own hown
    exact ⟨A', c', rfl, hI, hB, ((Below.refl w.heap.size w).alloc (Nat.le_refl _) _).grown hgrow (by simp) (by intro k hk; simp [Value.ownBlock] at hk; omega)⟩
end Go.Proofs.Ytafpbdmggnfdnaa

/- placed, pair: parts of a script's run. -/
namespace Go.Proofs.Ytafpbdmggnfdnaa
open Go.RowKit
set_option linter.unusedVariables false

theorem placedL_length (xs : List Int) (made : List Nat) : (placedL xs made).length = xs.length := by simp [placedL]
structure PRel (w : World) (ys : List Int) (vo : Value) (k : Nat) (wr : World) : Prop where
  below : Below w.heap.size w wr
  own : wr.ownsRow w.heap.size 3 1 vo k ((ys.take k).map (Value.int .i64))
theorem PRel.next {w wr W : World} {ys : List Int} {vo v' : Value} {k : Nat} {y : Int} {t : TypeId} (R : PRel w ys vo k wr) (hy : ys[k]? = some y) (hown : W.ownsRow w.heap.size 3 1 v' (k + 1) ((ys.take k).map (Value.int .i64) ++ [.int .i64 y])) (hg : (wr.alloc (.cells #[.int .i64 y] t)).grownBy W vo.ownBlock) : PRel w ys v' (k + 1) W := by
  refine ⟨(R.below.alloc R.below.size _).grown hg (by have := R.below.size; simp; omega) (fun b hb => (R.own.lt b hb).1), ?_⟩
  rw [List.take_add_one, hy, Option.toList_some, List.map_append]
  exact hown
set_option maxRecDepth 100000 in
set_option maxHeartbeats 2000000 in
theorem placed_any (w : World) (A B : Option Addr) (c d : Nat) (xs : List Int) (made : List Nat) (hA : Ints w A xs) (hB : Nats w B made) (hl : xs.length ≤ 1000000) (hm : made.length ≤ 1000000) :
    Calls Try.prog 21 #[.slice A xs.length c, .slice B made.length d] w (NewInts w (placedL xs made)) := by
  obtain ⟨i1, ki, kz0, kz1, kz2⟩ := info_parts intInfo
  have Ki := hide ki; have Kz0 := hide kz0; have Kz1 := hide kz1; have Kz2 := hide kz2
  clear ki kz0 kz1 kz2
  have HR : Hid (PRel w (placedL xs made) (.slice (some ⟨w.heap.size, 0, none⟩) 0 0) 0 (w.alloc (.cells #[] 3))) := hide ⟨(Below.refl _ _).alloc (Nat.le_refl _) _, by simpa using World.ownsRow_made (base := w.heap.size) (e := 3) (size := 1) w #[] 0 (Nat.le_refl _) (Nat.zero_le _) rfl⟩
  have HA := hide hA; have HB := hide hB
  clear hA hB
  go_enter Try.func21, Try.ntmps21
  go_wp2
  go_loopw [5, 6] (fun vo vi wr => ∃ k : Nat, vi = .int .i64 k ∧ k ≤ xs.length ∧ PRel w (placedL xs made) vo k wr) (fun _ vi _ => xs.length - (intOf vi).toNat)
  case atStart => exact ⟨0, rfl, by omega, HR.out⟩
  case round =>
    obtain ⟨k, rfl, hk, R⟩ := hrel
    clear HR
    by_cases hlt : k < xs.length
    · obtain ⟨b, off, rfl, hb, d0⟩ := HA.out.at_ k hlt
      obtain ⟨x, hx⟩ : ∃ x, xs[k] = x := ⟨_, rfl⟩
      have d1 := (R.below.cell (p := ⟨b, off + k, none⟩) hb).trans d0
      rw [hx] at d1
      have Hy : Hid ((placedL xs made)[k]? = some (placed1 made x)) := hide (by unfold placedL; rw [List.getElem?_map, List.getElem?_eq_getElem hlt, hx]; rfl)
      clear d0 hx
      have hz : w.heap.size ≤ wr.heap.size := R.below.size
      by_cases hin : 0 ≤ x ∧ x < (made.length : Int)
      · obtain ⟨m, rfl⟩ : ∃ m : Nat, x = m := ⟨x.toNat, by omega⟩
        have hmm : m < made.length := by omega
        obtain ⟨b2, o2, rfl, hb2, e0⟩ := HB.out.at_ m (by simpa [cast] using hmm)
        simp only [cast, List.getElem_map] at e0
        rw [par_at hmm] at e0
        have e1 := (R.below.cell (p := ⟨b2, o2 + m, none⟩) hb2).trans e0
        have hp : placed1 made (m : Int) = (par made m : Int) := by unfold placed1; rw [if_pos hin]; simp
        rw [hp] at Hy
        obtain ⟨y, hy⟩ : ∃ y : Nat, par made m = y := ⟨_, rfl⟩
        rw [hy] at e1 Hy
        have k1 : decide ((0 : Int) ≤ (m : Int)) = true := by simp
        have k2 : decide ((m : Int) < (made.length : Int)) = true := by simp; omega
        have k3 : decide (m < made.length) = true := by simp; omega
        have HRr := hide R
        have O1 := hide (R.own.alloc (.cells #[.int .i64 (y : Int)] 3))
        have N1 := hide (one_new wr (.int .i64 (y : Int)) 3)
        have E1 : Hid (∀ u ∈ [Value.int .i64 (y : Int)], u.oneCell' = true) := hide (by simp [Value.oneCell'])
        clear e0 hp hy R hin
        go_wp2_with (at_builtin; refine wpList_append_own _ rfl (.tmp 28) (.tmp 36) 30 rfl w.heap.size 3 i1 (.int .i64 0) 1 8 Try.underlying30 Ki.out Kz0.out Kz1.out Kz2.out rfl (by decide) u5 k (((placedL xs made).take k).map (Value.int .i64)) rfl O1.out ⟨wr.heap.size, 0, none⟩ 1 1 [.int .i64 (y : Int)] rfl rfl N1.out E1.out (by unfold maxLen; omega) (by omega) (by simp; omega) ?_; intro v' w1 hown hgrow hnil; clear hnil; have Hown := hide hown; have Hgrow := hide hgrow; clear hown hgrow)
        go_roundw
        case measure => simp [intOf]; omega
        case rel => exact ⟨k + 1, by go_num, by omega, HRr.out.next Hy.out Hown.out Hgrow.out⟩
      · have hp : placed1 made x = x := by unfold placed1; rw [if_neg hin]
        rw [hp] at Hy
        have HRr := hide R
        have O1 := hide (R.own.alloc (.cells #[.int .i64 x] 3))
        have N1 := hide (one_new wr (.int .i64 x) 3)
        have E1 : Hid (∀ u ∈ [Value.int .i64 x], u.oneCell' = true) := hide (by simp [Value.oneCell'])
        have hcase : (x < 0) ∨ (0 ≤ x ∧ (made.length : Int) ≤ x) := by omega
        clear hp R hin
        rcases hcase with h1 | ⟨h1, h2⟩
        · have k1 : decide ((0 : Int) ≤ x) = false := by simp; omega
          go_wp2_with (at_builtin; refine wpList_append_own _ rfl (.tmp 38) (.tmp 43) 30 rfl w.heap.size 3 i1 (.int .i64 0) 1 8 Try.underlying30 Ki.out Kz0.out Kz1.out Kz2.out rfl (by decide) u5 k (((placedL xs made).take k).map (Value.int .i64)) rfl O1.out ⟨wr.heap.size, 0, none⟩ 1 1 [.int .i64 x] rfl rfl N1.out E1.out (by unfold maxLen; omega) (by omega) (by simp; omega) ?_; intro v' w1 hown hgrow hnil; clear hnil; have Hown := hide hown; have Hgrow := hide hgrow; clear hown hgrow)
          go_roundw
          case measure => simp [intOf]; omega
          case rel => exact ⟨k + 1, by go_num, by omega, HRr.out.next Hy.out Hown.out Hgrow.out⟩
        · have k1 : decide ((0 : Int) ≤ x) = true := by simp; omega
          have k2 : decide (x < (made.length : Int)) = false := by simp; omega
          go_wp2_with (at_builtin; refine wpList_append_own _ rfl (.tmp 38) (.tmp 43) 30 rfl w.heap.size 3 i1 (.int .i64 0) 1 8 Try.underlying30 Ki.out Kz0.out Kz1.out Kz2.out rfl (by decide) u5 k (((placedL xs made).take k).map (Value.int .i64)) rfl O1.out ⟨wr.heap.size, 0, none⟩ 1 1 [.int .i64 x] rfl rfl N1.out E1.out (by unfold maxLen; omega) (by omega) (by simp; omega) ?_; intro v' w1 hown hgrow hnil; clear hnil; have Hown := hide hown; have Hgrow := hide hgrow; clear hown hgrow)
          go_roundw
          case measure => simp [intOf]; omega
          case rel => exact ⟨k + 1, by go_num, by omega, HRr.out.next Hy.out Hown.out Hgrow.out⟩
    · obtain rfl : k = xs.length := by omega
      have hown := R.own
      rw [List.take_of_length_le (by rw [placedL_length]; omega), ← placedL_length xs made] at hown
      obtain ⟨A', c', rfl, hI, hB'⟩ := ints_of_own hown
      have HI := hide hI; have HB' := hide hB'; have Hb := hide R.below
      have Hl := hide (placedL_length xs made)
      clear hown hI hB' R
      go_wp2
      go_ret
      exact ⟨A', c', rfl, HI.out, HB'.out, Hb.out⟩

set_option maxHeartbeats 1000000 in
theorem pair_fn (w : World) (A : Option Addr) (c : Nat) (xs : List Int) (hA : Ints w A xs) (hl : xs.length ≤ 1000000) :
    Calls Try.prog 33 #[.slice A xs.length c] w fun e w' => e = .returned (.tuple #[.int .i64 (fst2 xs), .int .i64 (snd2 xs)]) ∧ ∃ n, w' = w.drewN n := by
  rcases (show xs.length < 2 ∨ 2 ≤ xs.length by omega) with h | h
  · have h1 : fst2 xs = -1 ∧ snd2 xs = -1 := by
      rcases xs with _ | ⟨a, _ | ⟨b, xs⟩⟩
      · exact ⟨rfl, rfl⟩
      · exact ⟨rfl, rfl⟩
      · simp at h; omega
    have H1 := hide h1
    have k1 : decide ((xs.length : Int) < 2) = true := by simp; omega
    clear h1
    go_enter Try.func33, Try.ntmps33
    go_wp2
    go_ret2
    exact ⟨by rw [H1.out.1, H1.out.2]; rfl, 0, rfl⟩
  · obtain ⟨b, off, rfl, hb, e0⟩ := hA.at_ 0 (by omega)
    obtain ⟨b', off', e, -, e1⟩ := hA.at_ 1 (by omega)
    obtain ⟨rfl, rfl⟩ : b = b' ∧ off = off' := by injection e with e; injection e with e1 e2; exact ⟨e1, e2⟩
    have H1 : Hid (fst2 xs = xs[0] ∧ snd2 xs = xs[1]) := hide (by
      rcases xs with _ | ⟨a, _ | ⟨b, xs⟩⟩
      · simp at h
      · simp at h
      · exact ⟨rfl, rfl⟩)
    obtain ⟨x0, h0⟩ : ∃ x, xs[0] = x := ⟨_, rfl⟩
    obtain ⟨x1, h1⟩ : ∃ x, xs[1] = x := ⟨_, rfl⟩
    rw [h0, h1] at H1
    rw [h0] at e0
    rw [h1] at e1
    simp only [Nat.add_zero] at e0
    have k1 : decide ((xs.length : Int) < 2) = false := by simp; omega
    have k2 : (0 : Int) < (xs.length : Int) := by omega
    have k3 : (1 : Int) < (xs.length : Int) := by omega
    have k4 : 0 < xs.length := by omega
    have k5 : 1 < xs.length := by omega
    clear h0 h1 e hA
    go_enter Try.func33, Try.ntmps33
    go_wp2
    go_quiet (fail)
    go_wp2
    go_ret2
    exact ⟨by rw [H1.out.1, H1.out.2]; rfl, _, rfl⟩
end Go.Proofs.Ytafpbdmggnfdnaa
