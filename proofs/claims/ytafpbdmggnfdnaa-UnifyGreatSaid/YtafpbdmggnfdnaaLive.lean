/- A store of the program's, with all that is its own in memory: what each call answers and what it leaves. -/
import Derived.Test.YtafpbdmggnfdnaaTypesNo
import Derived.Test.YtafpbdmggnfdnaaPlainAdd
namespace Go.Proofs.Ytafpbdmggnfdnaa
open Go.RowKit
set_option linter.unusedVariables false

/-- At address g lies a store of these nodes with these classes; all that it may write or must read lies in M. -/
structure Live (M : Nat → Prop) (g : Nat) (N : List Nd) (c : Nat → Nat) (w : World) : Prop where
  out : ∃ L S d, L.g = g ∧ St w 0 L S ∧ S.nodes = N ∧ Ok S c d ∧ (∀ b, L.fp b → M b) ∧ ∀ (i : Nat) (a : Option Addr × Nat), L.ad[i]? = some a → ∀ x, a.1 = some x → M x.block
  lt : ∀ b, M b → b < w.heap.size
/-- What was new behind w. -/
def more (M : Nat → Prop) (w w' : World) : Nat → Prop := fun b => M b ∨ (w.heap.size ≤ b ∧ b < w'.heap.size)
theorem St.base0 {w : World} {base : Nat} {L : Lay} {S : PS} (h : St w base L S) : St w 0 L S := ⟨h.blk, Nat.zero_le _, own_base h.nodes (Nat.zero_le _), own_base h.above (Nat.zero_le _), own_base h.ranks (Nat.zero_le _), own_base h.forms (Nat.zero_le _), h.ar, h.af, h.rf, h.ad, h.args, h.many, h.few⟩
section
variable {M F : Nat → Prop} {g : Nat} {N : List Nd} {c : Nat → Nat} {w w' : World}
theorem Live.keep (h : Live M g N c w) (ho : Only F w w') (hF : ∀ b, F b → ¬ M b) : Live M g N c w' := by
  obtain ⟨⟨L, S, d, h1, h2, h3, h4, h5, h6⟩, h7⟩ := h
  exact ⟨⟨L, S, d, h1, h2.only ho (fun b hb _ hf => hF b hb (h5 b hf)) (fun i a ha x hx hf => hF _ hf (h6 i a ha x hx)), h3, h4, h5, h6⟩, fun b hb => Nat.lt_of_lt_of_le (h7 b hb) ho.size⟩
theorem Live.below (h : Live M g N c w) (hb : Below w.heap.size w w') : Live M g N c w' := h.keep (Only.of_below hb (fun _ => False)) (fun _ hf => hf.elim)
theorem Live.many (h : Live M g N c w) : N.length ≤ 1000000 := by
  obtain ⟨⟨L, S, d, h1, h2, rfl, h4, h5, h6⟩, h7⟩ := h
  exact h2.many
theorem Live.wf (h : Live M g N c w) : Wf N := by
  obtain ⟨⟨L, S, d, h1, h2, rfl, h4, h5, h6⟩, h7⟩ := h
  exact h4.inv.wf
theorem Live.closed (h : Live M g N c w) : Closed N c := by
  obtain ⟨⟨L, S, d, h1, h2, rfl, h4, h5, h6⟩, h7⟩ := h
  exact h4.closed
theorem Live.acyc (h : Live M g N c w) : Acyc N c := by
  obtain ⟨⟨L, S, d, h1, h2, rfl, h4, h5, h6⟩, h7⟩ := h
  exact h4.acyc
theorem Live.roots (h : Live M g N c w) (i : Nat) (hi : i < N.length) : c i < N.length ∧ c (c i) = c i := by
  obtain ⟨⟨L, S, d, h1, h2, rfl, h4, h5, h6⟩, h7⟩ := h
  exact h4.roots i hi
/-- What nodes stand for, by the classes alone: forms are chosen. -/
def TreeOf (N : List Nd) (c : Nat → Nat) (is : List Nat) (T : Fo) : Prop := ∃ F : Nat → Nat, (∀ i, i < N.length → Form N c (c i) (F (c i))) ∧ Stands N c F is T
theorem TreeOf.unique {is : List Nat} {T U : Fo} (hw : Wf N) (hcl : Closed N c) (hc : ∀ i, i < N.length → c i < N.length ∧ c (c i) = c i) (hi : ∀ i ∈ is, i < N.length) (h : TreeOf N c is T) (k : TreeOf N c is U) : T = U := by
  obtain ⟨F, hF, hT⟩ := h
  obtain ⟨F', hF', hU⟩ := k
  have := Stands.same hw hcl (fun _ _ _ _ e => e) (fun _ _ _ _ e => e) hc hF hF' hT is U hi hi rfl (fun k i j h1 h2 => by rw [h1] at h2; injection h2 with e; rw [e]) hU
  rw [this]
  have hr := hT.roots hw hc hi
  have e1 : T.mapv (fun v => v) = T := by
    clear this hr hT hU
    induction T with
    | nil => rfl
    | var n r ih => simp [Fo.mapv, ih]
    | con k m a r iha ih => simp [Fo.mapv, iha, ih]
  rw [Fo.mapv_congr T (g := fun v => v) (fun v hv => (hr v hv).2), e1]
theorem Live.tree (h : Live M g N c w) (is : List Nat) (hi : ∀ i ∈ is, i < N.length) : ∃ T, TreeOf N c is T := by
  obtain ⟨⟨L, S, d, h1, h2, rfl, h4, h5, h6⟩, h7⟩ := h
  obtain ⟨T, hT⟩ := h4.stands is hi
  exact ⟨T, par S.forms, h4.forms, hT⟩
end

section
variable {M : Nat → Prop} {g : Nat} {N : List Nd} {c : Nat → Nat} {w : World}
theorem live_new (w : World) : Calls Try.prog 25 #[] w fun e w' => e = .returned (.pointer (some ⟨w.heap.size, 0, none⟩)) ∧ Live (fun b => b = w.heap.size) w.heap.size [] (fun i => i) w' ∧ Below w.heap.size w w' := by
  refine (new_any w 0 (Nat.zero_le _)).mono ?_
  rintro e w' ⟨rfl, h1, h2⟩
  refine ⟨rfl, ⟨⟨_, _, _, rfl, h1, rfl, Ok.new, ?_, fun i a ha => by simp at ha⟩, ?_⟩, h2⟩
  · rintro b (rfl | hb | hb | hb | hb)
    · rfl
    · cases hb
    · cases hb
    · cases hb
    · cases hb
  · rintro b rfl; exact h1.glt
theorem live_var (h : Live M g N c w) (hm : N.length + 1 ≤ 1000000) : Calls Try.prog 26 #[.pointer (some ⟨g, 0, none⟩)] w fun e w' => e = .returned (.int .i64 (N.length : Int)) ∧ Live (more M w w') g (N ++ [varNd]) (addC N.length c) w' ∧ Only M w w' := by
  obtain ⟨⟨L, S, d, rfl, h2, rfl, h4, h5, h6⟩, h7⟩ := h
  refine (var_any h2 hm).mono ?_
  rintro e w' ⟨rfl, L', k1, k2, k3, k4, k5⟩
  have ho : Only M w w' := k3.mono fun b _ hb => h5 b hb
  refine ⟨rfl, ⟨⟨L', S.add varNd, _, k2, k1, rfl, h4.add varNd (by simp [varNd]) (fun _ => rfl), fun b hb => ?_, fun i a ha x hx => ?_⟩, fun b hb => ?_⟩, ho⟩
  · exact (k4 b hb).imp (h5 b) fun h => ⟨h, (k1.fp_lt b hb).2⟩
  · rcases k5 i a ha with h | h
    · exact .inl (h6 i a h x hx)
    · rw [h] at hx; cases hx
  · rcases hb with hb | hb
    · exact Nat.lt_of_lt_of_le (h7 b hb) ho.size
    · exact hb.2

/-- The error that a making answers. -/
def makeErr (n : Nat) (kind : Int) (name : ByteArray) (xs : List Int) : Int := if allIn n xs = false then 221 else if (kind = 2 ∧ kindL name.toList ≠ 1) ∨ (kind = 3 ∧ xs.length < 2) then 120 else 0
def makeN (N : List Nd) (kind : Int) (name : ByteArray) (xs : List Int) : List Nd := if makeErr N.length kind name xs = 0 then N ++ [⟨kind, name, xs.map Int.toNat⟩] else N
def makeC (N : List Nd) (c : Nat → Nat) (kind : Int) (name : ByteArray) (xs : List Int) : Nat → Nat := if makeErr N.length kind name xs = 0 then addC N.length c else c
def makeV (N : List Nd) (kind : Int) (name : ByteArray) (xs : List Int) : Int := if makeErr N.length kind name xs = 0 then (N.length : Int) else 0
def MakePost (M : Nat → Prop) (g : Nat) (N : List Nd) (c : Nat → Nat) (w : World) (kind : Int) (name : ByteArray) (xs : List Int) (e : Ending) (w' : World) : Prop :=
  e = .returned (.tuple #[.int .i64 (makeV N kind name xs), .int .i64 (makeErr N.length kind name xs)]) ∧ Live (more M w w') g (makeN N kind name xs) (makeC N c kind name xs) w' ∧ Only M w w'
theorem Live.more (h : Live M g N c w) {w' : World} (hb : Below w.heap.size w w') : Live (Go.Proofs.Ytafpbdmggnfdnaa.more M w w') g N c w' := by
  obtain ⟨⟨L, S, d, h1, h2, h3, h4, h5, h6⟩, h7⟩ := h
  refine ⟨⟨L, S, d, h1, h2.later hb, h3, h4, fun b hb => .inl (h5 b hb), fun i a ha x hx => .inl (h6 i a ha x hx)⟩, fun b hb' => ?_⟩
  rcases hb' with hb' | hb'
  · exact Nat.lt_of_lt_of_le (h7 b hb') hb.size
  · exact hb'.2
theorem make_no (h : Live M g N c w) {w' : World} (hb : Below w.heap.size w w') {kind : Int} {name : ByteArray} {xs : List Int} {err : Int} (he : makeErr N.length kind name xs = err) (h0 : err ≠ 0) : MakePost M g N c w kind name xs (.returned (.tuple #[.int .i64 0, .int .i64 err])) w' := by
  unfold MakePost makeV makeN makeC
  rw [he, if_neg h0, if_neg h0, if_neg h0]
  exact ⟨rfl, h.more hb, Only.of_below hb _⟩
theorem make_yes {L : Lay} {S : PS} {d : Nat → Nat} (h2 : St w 0 L S) (h4 : Ok S c d) (h5 : ∀ b, L.fp b → M b) (h6 : ∀ (i : Nat) (a : Option Addr × Nat), L.ad[i]? = some a → ∀ x, a.1 = some x → M x.block) (h7 : ∀ b, M b → b < w.heap.size) {kind : Int} {name : ByteArray} {xs : List Int} (he : makeErr S.nodes.length kind name xs = 0) (hk : allIn S.nodes.length xs = true) (h1 : kind ≠ 1) {e : Ending} {w' : World} (hp : MadePost w 0 L S ⟨kind, name, xs.map Int.toNat⟩ e w') : MakePost M L.g S.nodes c w kind name xs e w' := by
  obtain ⟨rfl, L', k1, k2, k3, k4, k5⟩ := hp
  have ho : Only M w w' := k3.mono fun b _ hb => h5 b hb
  unfold MakePost makeV makeN makeC
  rw [he, if_pos rfl, if_pos rfl, if_pos rfl]
  refine ⟨rfl, ⟨⟨L', S.add ⟨kind, name, xs.map Int.toNat⟩, _, k2, k1, rfl, h4.add _ (cast_toNat hk).2 (fun e => absurd e h1), fun b hb => ?_, fun i a ha x hx => ?_⟩, fun b hb => ?_⟩, ho⟩
  · exact (k4 b hb).imp (h5 b) fun h => ⟨h, (k1.fp_lt b hb).2⟩
  · rcases k5 i a ha with h | h
    · exact .inl (h6 i a h x hx)
    · have hl := k1.older.ad i a ha x hx
      exact .inr ⟨h x hx, hl⟩
  · rcases hb with hb | hb
    · exact Nat.lt_of_lt_of_le (h7 b hb) ho.size
    · exact hb.2
theorem live_con (h : Live M g N c w) (name : ByteArray) (A : Option Addr) (cap : Nat) (xs : List Int) (hx : Ints w A xs) (hl : xs.length ≤ 1000000) (hs : name.size ≤ 1000000) (hm : N.length + 1 ≤ 1000000) :
    Calls Try.prog 30 #[.pointer (some ⟨g, 0, none⟩), .string name, .slice A xs.length cap] w (MakePost M g N c w 2 name xs) := by
  have h' := h
  obtain ⟨⟨L, S, d, rfl, h2, rfl, h4, h5, h6⟩, h7⟩ := h
  cases hk : allIn S.nodes.length xs with
  | false =>
    refine (con_no h2 name A cap xs hx hl hk).mono ?_
    rintro e w' ⟨rfl, rfl⟩
    exact make_no h' (Below.refl _ _) (by unfold makeErr; rw [if_pos hk]) (by decide)
  | true =>
    by_cases hq : kindL name.toList = 1
    · exact (con_any h2 name A cap xs hx hl hs hk hq hm).mono fun e w' hp => make_yes h2 h4 h5 h6 h7 (by unfold makeErr; rw [if_neg (by simp [hk]), if_neg (by simp [hq])]) hk (by decide) hp
    · refine (con_bad h2 name A cap xs hx hl hs hk hq).mono ?_
      rintro e w' ⟨rfl, rfl⟩
      exact make_no h' (Below.refl _ _) (by unfold makeErr; rw [if_neg (by simp [hk]), if_pos (.inl ⟨rfl, hq⟩)]) (by decide)
theorem live_pair (h : Live M g N c w) (A : Option Addr) (cap : Nat) (xs : List Int) (hx : Ints w A xs) (hl : xs.length ≤ 1000000) (hm : N.length + 1 ≤ 1000000) :
    Calls Try.prog 27 #[.pointer (some ⟨g, 0, none⟩), .slice A xs.length cap] w (MakePost M g N c w 3 ByteArray.empty xs) := by
  have h' := h
  obtain ⟨⟨L, S, d, rfl, h2, rfl, h4, h5, h6⟩, h7⟩ := h
  cases hk : allIn S.nodes.length xs with
  | false =>
    refine (pair_no h2 A cap xs hx hl hk).mono ?_
    rintro e w' ⟨rfl, rfl⟩
    exact make_no h' (Below.refl _ _) (by unfold makeErr; rw [if_pos hk]) (by decide)
  | true =>
    by_cases hq : 2 ≤ xs.length
    · exact (pair_any h2 A cap xs hx hl hk hq hm).mono fun e w' hp => make_yes h2 h4 h5 h6 h7 (by unfold makeErr; rw [if_neg (by simp [hk]), if_neg (by rintro (⟨h, _⟩ | ⟨_, h⟩); exact absurd h (by decide); omega)]) hk (by decide) hp
    · refine (pair_bad h2 A cap xs hx hl hk (by omega)).mono ?_
      rintro e w' ⟨rfl, rfl⟩
      exact make_no h' (Below.refl _ _) (by unfold makeErr; rw [if_neg (by simp [hk]), if_pos (.inr ⟨rfl, by omega⟩)]) (by decide)
theorem live_arrow (h : Live M g N c w) (a b : Int) (hm : N.length + 1 ≤ 1000000) :
    Calls Try.prog 31 #[.pointer (some ⟨g, 0, none⟩), .int .i64 a, .int .i64 b] w (MakePost M g N c w 4 ByteArray.empty [a, b]) := by
  have h' := h
  obtain ⟨⟨L, S, d, rfl, h2, rfl, h4, h5, h6⟩, h7⟩ := h
  cases hk : allIn S.nodes.length [a, b] with
  | false =>
    refine (arrow_no h2 a b hk).mono ?_
    rintro e w' ⟨rfl, hb⟩
    exact make_no h' hb (by unfold makeErr; rw [if_pos hk]) (by decide)
  | true =>
    exact (arrow_any h2 a b hk hm).mono fun e w' hp => make_yes (xs := [a, b]) h2 h4 h5 h6 h7 (by unfold makeErr; rw [if_neg (by simp [hk]), if_neg (by rintro (⟨h, _⟩ | ⟨h, _⟩) <;> exact absurd h (by decide))]) hk (by decide) hp
theorem live_len (h : Live M g N c w) : Calls Try.prog 32 #[.pointer (some ⟨g, 0, none⟩)] w fun e w' => e = .returned (.int .i64 (N.length : Int)) ∧ w = w' := by
  obtain ⟨⟨L, S, d, rfl, h2, rfl, h4, h5, h6⟩, h7⟩ := h
  exact len_any h2
/-- What Unify answers. -/
def UniSaid (N : List Nd) (c : Nat → Nat) (a b : Int) (err : Int) (c' : Nat → Nat) : Prop :=
  (allIn N.length [a, b] = false ∧ err = 221 ∧ c' = c) ∨ (allIn N.length [a, b] = true ∧ ((err = 0 ∧ Least N c a.toNat b.toNat c') ∨ (err = 131 ∧ c' = c ∧ ∀ e, ¬ Good N c a.toNat b.toNat e) ∨ (err = 130 ∧ c' = c ∧ ∃ cl, Least N c a.toNat b.toNat cl ∧ ¬ Acyc N cl)))
theorem live_unify (h : Live M g N c w) (a b : Int) : Calls Try.prog 23 #[.pointer (some ⟨g, 0, none⟩), .int .i64 a, .int .i64 b] w fun e w' => ∃ err c', e = .returned (.int .i64 err) ∧ UniSaid N c a b err c' ∧ Live M g N c' w' ∧ Only M w w' := by
  have h' := h
  obtain ⟨⟨L, S, d, rfl, h2, rfl, h4, h5, h6⟩, h7⟩ := h
  cases hk : allIn S.nodes.length [a, b] with
  | false =>
    refine (unify_no h2 a b hk).mono ?_
    rintro e w' ⟨rfl, hb⟩
    exact ⟨221, c, rfl, .inl ⟨hk, rfl, rfl⟩, h'.below hb, Only.of_below hb _⟩
  | true =>
    have hab : (0 ≤ a ∧ a < (S.nodes.length : Int)) ∧ (0 ≤ b ∧ b < (S.nodes.length : Int)) := by simpa [allIn] using hk
    have := unify_any h2 h4 a.toNat b.toNat (by omega) (by omega)
    rw [show ((a.toNat : Nat) : Int) = a by omega, show ((b.toNat : Nat) : Int) = b by omega] at this
    refine this.mono ?_
    rintro e w' ⟨S', c', d', err, rfl, k1, k2, k3, k4, k5⟩
    have ho : Only M w w' := k4.mono fun b _ hb => h5 b (Lay.fq_fp hb)
    refine ⟨err, c', rfl, .inr ⟨hk, ?_⟩, ⟨⟨L, S', d', rfl, k1, k2, k3, h5, h6⟩, fun b hb => Nat.lt_of_lt_of_le (h7 b hb) ho.size⟩, ho⟩
    rcases k5 with ⟨e1, e2⟩ | ⟨e1, _, e2, e3⟩ | ⟨e1, _, e2, e3⟩
    · exact .inl ⟨e1, e2⟩
    · exact .inr (.inl ⟨e1, e2, e3⟩)
    · exact .inr (.inr ⟨e1, e2, e3⟩)
theorem live_alike (h : Live M g N c w) (a b : Nat) (ha : a < N.length) (hb : b < N.length) : Calls Try.prog 19 #[.pointer (some ⟨g, 0, none⟩), .int .i64 (a : Int), .int .i64 (b : Int)] w fun e w' => (∃ r : Bool, e = .returned (.bool r) ∧ (r = true ↔ AlikeIn N c a b)) ∧ Live M g N c w' ∧ Only M w w' := by
  obtain ⟨⟨L, S, d, rfl, h2, rfl, h4, h5, h6⟩, h7⟩ := h
  refine (alike_any h2 h4 a b ha hb).mono ?_
  rintro e w' ⟨h8, k1, k2⟩
  have ho : Only M w w' := k2.mono fun b _ hb => h5 b (Lay.fq_fp hb)
  exact ⟨h8, ⟨⟨L, S, d, rfl, k1, rfl, h4, h5, h6⟩, fun b hb => Nat.lt_of_lt_of_le (h7 b hb) ho.size⟩, ho⟩
theorem live_size (h : Live M g N c w) (i : Int) (sz : Int) (hs : (allIn N.length [i] = false ∧ sz = 0) ∨ (allIn N.length [i] = true ∧ ∃ T, TreeOf N c [i.toNat] T ∧ sz = (capped T.cnt : Int))) : Calls Try.prog 13 #[.pointer (some ⟨g, 0, none⟩), .int .i64 i] w fun e w' => e = .returned (.int .i64 sz) ∧ Below w.heap.size w w' := by
  have h' := h
  obtain ⟨⟨L, S, d, rfl, h2, rfl, h4, h5, h6⟩, h7⟩ := h
  rcases hs with ⟨hk, rfl⟩ | ⟨hk, T, hT, rfl⟩
  · exact size_no h2 i hk
  · have hab : 0 ≤ i ∧ i < (S.nodes.length : Int) := by simpa [allIn] using hk
    obtain ⟨T', hT'⟩ := h4.stands [i.toNat] (by simp; omega)
    have e1 : T = T' := TreeOf.unique h4.inv.wf h4.closed h4.roots (by simp; omega) hT ⟨par S.forms, h4.forms, hT'⟩
    subst e1
    have := size_any h2 h4 i.toNat (by omega) T hT'
    rwa [show ((i.toNat : Nat) : Int) = i by omega] at this
theorem live_types (h : Live M g N c w) (A : Option Addr) (cap : Nat) (ns : List Nat) (hA : Nats w A ns) (hns : ∀ x ∈ ns, x < N.length) (hlen : ns.length ≤ 1000000) (T : Fo) (hT : TreeOf N c ns T) (hsz : ∀ x ∈ ns, ∀ B, TreeOf N c [x] B → B.cnt ≤ 300) :
    Calls Try.prog 15 #[.pointer (some ⟨g, 0, none⟩), .slice A ns.length cap] w (TypesPost w ns.length (ren T)) := by
  obtain ⟨⟨L, S, d, rfl, h2, rfl, h4, h5, h6⟩, h7⟩ := h
  obtain ⟨T', hT'⟩ := h4.stands ns hns
  have e1 : T = T' := TreeOf.unique h4.inv.wf h4.closed h4.roots hns hT ⟨par S.forms, h4.forms, hT'⟩
  subst e1
  exact types_any h2 h4 A cap ns hA hns hlen T hT' (fun x hx B hB => hsz x hx B ⟨par S.forms, h4.forms, hB⟩)
theorem live_types_no (h : Live M g N c w) (A : Option Addr) (cap : Nat) (xs : List Int) (hA : Ints w A xs) (hlen : xs.length ≤ 1000000) (hall : allIn N.length xs = false) :
    Calls Try.prog 15 #[.pointer (some ⟨g, 0, none⟩), .slice A xs.length cap] w (TypesNo w 221) := by
  obtain ⟨⟨L, S, d, rfl, h2, rfl, h4, h5, h6⟩, h7⟩ := h
  exact types_no h2 A cap xs hA hlen hall
theorem live_types_big (h : Live M g N c w) (A : Option Addr) (cap : Nat) (ns : List Nat) (hA : Nats w A ns) (hns : ∀ x ∈ ns, x < N.length) (hlen : ns.length ≤ 1000000) (hbig : ∃ x ∈ ns, ∃ B, TreeOf N c [x] B ∧ 300 < B.cnt) :
    Calls Try.prog 15 #[.pointer (some ⟨g, 0, none⟩), .slice A ns.length cap] w (TypesNo w 120) := by
  obtain ⟨⟨L, S, d, rfl, h2, rfl, h4, h5, h6⟩, h7⟩ := h
  refine types_big h2 h4 A cap ns hA hns hlen ?_
  obtain ⟨x, hx, B, hB, hl⟩ := hbig
  obtain ⟨B', hB'⟩ := h4.stands [x] (by simpa using hns x hx)
  have e1 : B = B' := TreeOf.unique h4.inv.wf h4.closed h4.roots (by simpa using hns x hx) hB ⟨par S.forms, h4.forms, hB'⟩
  subst e1
  exact ⟨x, hx, B, hB', hl⟩
end
end Go.Proofs.Ytafpbdmggnfdnaa
