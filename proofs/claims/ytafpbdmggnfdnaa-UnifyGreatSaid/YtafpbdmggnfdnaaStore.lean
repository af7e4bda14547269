/- The program's store in memory: what lies where; what a call may touch; find, Len, known. -/
import Derived.Test.YtafpbdmggnfdnaaLeaf
import Derived.Test.YtafpbdmggnfdnaaPlainForest
import Derived.WalkKit
import Derived.WalkSpells
import Derived.WalkLawsBesides
import Derived.Laws.OwnMore
import Derived.Deep.Draws
import Derived.OwnWalk
namespace Go.Proofs.Ytafpbdmggnfdnaa
open Go.RowKit
set_option linter.unusedVariables false

/-- Only the blocks of F, and new ones, may have changed. -/
structure Only (F : Nat → Prop) (w w' : World) : Prop where
  os : w'.os = w.os
  tape : w'.tape = w.tape
  output : w'.output = w.output
  size : w.heap.size ≤ w'.heap.size
  block : ∀ i, i < w.heap.size → ¬ F i → w'.heap[i]? = w.heap[i]?

section
variable {F G : Nat → Prop} {w w' w'' : World} {B : Nat}
theorem Only.refl (F : Nat → Prop) (w : World) : Only F w w := ⟨rfl, rfl, rfl, Nat.le_refl _, fun _ _ _ => rfl⟩
theorem Only.trans (h : Only F w w') (k : Only F w' w'') : Only F w w'' :=
  ⟨k.os.trans h.os, k.tape.trans h.tape, k.output.trans h.output, Nat.le_trans h.size k.size, fun i hi hn => (k.block i (Nat.lt_of_lt_of_le hi h.size) hn).trans (h.block i hi hn)⟩
/-- The second may touch what is new for the first. -/
theorem Only.then_ (h : Only F w w') (k : Only G w' w'') (hG : ∀ i, G i → i < w.heap.size → F i) : Only F w w'' :=
  ⟨k.os.trans h.os, k.tape.trans h.tape, k.output.trans h.output, Nat.le_trans h.size k.size, fun i hi hn => (k.block i (Nat.lt_of_lt_of_le hi h.size) (fun hg => hn (hG i hg hi))).trans (h.block i hi hn)⟩
theorem Only.mono (h : Only F w w') (hF : ∀ i, i < w.heap.size → F i → G i) : Only G w w' := ⟨h.os, h.tape, h.output, h.size, fun i hi hn => h.block i hi (fun hf => hn (hF i hi hf))⟩
theorem Only.drew (h : Only F w w') : Only F w w'.drew := ⟨h.os, h.tape, h.output, h.size, h.block⟩
theorem Only.drewN (h : Only F w w') (n : Nat) : Only F w (w'.drewN n) := ⟨h.os, h.tape, h.output, h.size, h.block⟩
theorem Only.alloc (h : Only F w w') (o : Obj) : Only F w (w'.alloc o) :=
  ⟨h.os, h.tape, h.output, Nat.le_trans h.size (by simp), fun i hi hn => (Below.heap_alloc w' o i (Nat.lt_of_lt_of_le hi h.size)).trans (h.block i hi hn)⟩
theorem Only.setCell (h : Only F w w') {p : Addr} (hp : F p.block ∨ w.heap.size ≤ p.block) (u : Value) : Only F w (w'.setCell p u) :=
  ⟨h.os, h.tape, h.output, by simpa [World.setCell] using h.size, fun i hi hn => (Below.heap_setCell w' p u i (by
    rintro rfl
    rcases hp with hp | hp
    · exact hn hp
    · omega)).trans (h.block i hi hn)⟩
theorem Only.grown {row : Option Nat} (h : Only F w w') (hg : w'.grownBy w'' row) (hr : ∀ b, row = some b → F b ∨ w.heap.size ≤ b) : Only F w w'' :=
  ⟨hg.os.trans h.os, hg.tape.trans h.tape, hg.output.trans h.output, Nat.le_trans h.size hg.size, fun i hi hn => (hg.block i (Nat.lt_of_lt_of_le hi h.size) (by
    intro e
    rcases hr i e.symm with h1 | h1
    · exact hn h1
    · omega)).trans (h.block i hi hn)⟩
theorem Only.of_below (h : Below w.heap.size w w') (F : Nat → Prop) : Only F w w' := ⟨h.os, h.tape, h.output, h.size, fun i hi _ => h.block i hi⟩
theorem Only.below (h : Only F w w') (hB : B ≤ w.heap.size) (hF : ∀ i, i < w.heap.size → F i → B ≤ i) : Below B w w' :=
  ⟨h.os, h.tape, h.output, h.size, fun i hi => h.block i (by omega) (fun hf => by have := hF i (by omega) hf; omega)⟩
theorem Only.below_trans {a : World} (h0 : Below B a w) (h : Only F w w') (hF : ∀ i, i < w.heap.size → F i → B ≤ i) (hB : B ≤ w.heap.size) : Below B a w' := h0.trans (h.below hB hF)
theorem Only.cell (h : Only F w w') {p : Addr} (hp : p.block < w.heap.size) (hn : ¬ F p.block) : w'.cell? p = w.cell? p := World.cell?_of_block (w := w) (h.block p.block hp hn)
theorem Only.frozen (h : Only F w w') {p : Addr} (hp : p.block < w.heap.size) (hn : ¬ F p.block) : w'.frozen? p = w.frozen? p := World.frozen?_of_block (w := w) (h.block p.block hp hn)
end

/-- A row of one's own lies where it lay if its block is as it was. -/
theorem own_keep {w w' : World} {base : Nat} {e : TypeId} {size n : Nat} {v : Value} {xs : List Value} (h : w.ownsRow base e size v n xs) (hk : ∀ b, v.ownBlock = some b → w'.heap[b]? = w.heap[b]?) : w'.ownsRow base e size v n xs := by
  refine ⟨h.1, ?_⟩
  rcases h.2 with h1 | ⟨g, cap, cur, h1, h2, h3, h4⟩
  · exact .inl h1
  · exact .inr ⟨g, cap, cur, h1, h2, (hk g (by rw [h1]; rfl)).trans h3, h4⟩
theorem own_only {F : Nat → Prop} {w w' : World} {base : Nat} {e : TypeId} {size n : Nat} {v : Value} {xs : List Value} (h : w.ownsRow base e size v n xs) (ho : Only F w w') (hn : ∀ b, v.ownBlock = some b → ¬ F b) : w'.ownsRow base e size v n xs :=
  own_keep h fun b hb => ho.block b (h.lt b hb).2 (hn b hb)
theorem own_base {w : World} {base base' : Nat} {e : TypeId} {size n : Nat} {v : Value} {xs : List Value} (h : w.ownsRow base e size v n xs) (hb : base' ≤ base) : w.ownsRow base' e size v n xs := by
  refine ⟨h.1, ?_⟩
  rcases h.2 with h1 | ⟨g, cap, cur, h1, h2, h3⟩
  · exact .inl h1
  · exact .inr ⟨g, cap, cur, h1, Nat.le_trans hb h2, h3⟩
theorem own_pos {w : World} {base : Nat} {e : TypeId} {size n : Nat} {v : Value} {xs : List Value} (h : w.ownsRow base e size v n xs) (hn : 0 < n) : ∃ g cap, v = .slice (some ⟨g, 0, none⟩) n cap ∧ n ≤ cap := by
  rcases h.2 with ⟨_, h1⟩ | ⟨g, cap, cur, h1, _, _, h2, _⟩
  · omega
  · exact ⟨g, cap, h1, h2⟩
theorem own_len {w : World} {base : Nat} {e : TypeId} {size n : Nat} {v : Value} {xs : List Value} (h : w.ownsRow base e size v n xs) : ∃ A cap, v = .slice A n cap ∧ n ≤ cap ∧ cap ≤ maxLen := by
  rcases h.2 with ⟨h1, h2⟩ | ⟨g, cap, cur, h1, _, _, h2, h3, _⟩
  · exact ⟨none, 0, by rw [h1, h2], by omega, by simp⟩
  · exact ⟨_, cap, h1, h2, h3⟩
theorem own_ne {w : World} {base base' : Nat} {e e' : TypeId} {size size' n n' : Nat} {v v' : Value} {xs xs' : List Value} (h : w.ownsRow base e size v n xs) (h' : w.ownsRow base' e' size' v' n' xs') (hne : e ≠ e') (b : Nat) (hb : v.ownBlock = some b) : v'.ownBlock ≠ some b := by
  intro hb'
  rcases h.2 with ⟨rfl, _⟩ | ⟨g, cap, cur, rfl, _, hg, _⟩
  · cases hb
  · rcases h'.2 with ⟨rfl, _⟩ | ⟨g', cap', cur', rfl, _, hg', _⟩
    · cases hb'
    · simp [Value.ownBlock] at hb hb'
      subst hb; subst hb'
      rw [hg] at hg'
      injection hg' with hg'
      injection hg' with _ ht
      exact hne ht
theorem own_blk {w : World} {base : Nat} {e t : TypeId} {size n : Nat} {v : Value} {xs : List Value} {g : Nat} {cs : Array Value} (h : w.ownsRow base e size v n xs) (hg : w.heap[g]? = some (.cells cs t (0, 0))) (hne : e ≠ t) : v.ownBlock ≠ some g := by
  rcases h.2 with ⟨rfl, _⟩ | ⟨g', cap, cur, rfl, _, hg', _⟩
  · simp [Value.ownBlock]
  · intro e1
    simp [Value.ownBlock] at e1
    subst e1
    rw [hg] at hg'
    injection hg' with hg'
    injection hg' with _ ht
    exact hne ht.symm

/-- The program's store: nodes, what each was put under, ranks, forms. -/
structure PS where
  nodes : List Nd
  above : List Nat
  ranks : List Nat
  forms : List Nat
/-- Where it lies: its block, its four slices, where the arguments of each node lie. -/
structure Lay where
  g : Nat
  vn : Value
  va : Value
  vr : Value
  vf : Value
  ad : List (Option Addr × Nat)
def nats (l : List Nat) : List Value := l.map fun (n : Nat) => Value.int .i64 (n : Int)
def ndCell (p : Nd) (a : Option Addr × Nat) : List Value := [.int .i64 p.kind, .string p.name, .slice a.1 p.args.length a.2]
def ndCells (N : List Nd) (ad : List (Option Addr × Nat)) : List Value := (N.zip ad).flatMap fun x => ndCell x.1 x.2
/-- A slice of integers, of which only the cells count. -/
def Ints (w : World) (A : Option Addr) (xs : List Int) : Prop :=
  xs ≠ [] → ∃ b off, A = some ⟨b, off, none⟩ ∧ b < w.heap.size ∧ ∀ (k : Nat) (x : Int), xs[k]? = some x → w.cell? ⟨b, off + k, none⟩ = some (.int .i64 x)
def cast (l : List Nat) : List Int := l.map fun (n : Nat) => (n : Int)
def Nats (w : World) (A : Option Addr) (xs : List Nat) : Prop := Ints w A (cast xs)
theorem Ints.at_ {w : World} {A : Option Addr} {xs : List Int} (h : Ints w A xs) (k : Nat) (hk : k < xs.length) : ∃ b off, A = some ⟨b, off, none⟩ ∧ b < w.heap.size ∧ w.cell? ⟨b, off + k, none⟩ = some (.int .i64 xs[k]) := by
  obtain ⟨b, off, e, hb, hc⟩ := h (by intro e; subst e; simp at hk)
  exact ⟨b, off, e, hb, hc k _ (List.getElem?_eq_getElem hk)⟩
theorem Ints.keep {w w' : World} {A : Option Addr} {xs : List Int} (h : Ints w A xs) (hs : w.heap.size ≤ w'.heap.size) (hk : ∀ a p : Addr, A = some a → p.block = a.block → p.block < w.heap.size → w'.cell? p = w.cell? p) : Ints w' A xs := by
  intro hne
  obtain ⟨b, off, e, hb, hc⟩ := h hne
  exact ⟨b, off, e, by omega, fun k x hx => (hk _ ⟨b, off + k, none⟩ e rfl hb).trans (hc k x hx)⟩
theorem Ints.only {F : Nat → Prop} {w w' : World} {A : Option Addr} {xs : List Int} (h : Ints w A xs) (ho : Only F w w') (hn : ∀ a, A = some a → ¬ F a.block) : Ints w' A xs :=
  h.keep ho.size fun a p ha hp hlt => ho.cell hlt (by rw [hp]; exact hn a ha)
theorem Ints.below {w w' : World} {A : Option Addr} {xs : List Int} (h : Ints w A xs) (hb : Below w.heap.size w w') : Ints w' A xs := h.keep hb.size fun _ _ _ _ hlt => hb.cell hlt
theorem Ints.drewN {w : World} {A : Option Addr} {xs : List Int} (h : Ints w A xs) (n : Nat) : Ints (w.drewN n) A xs := h
/-- What a store may write. -/
def Lay.fp (L : Lay) (b : Nat) : Prop := b = L.g ∨ L.vn.ownBlock = some b ∨ L.va.ownBlock = some b ∨ L.vr.ownBlock = some b ∨ L.vf.ownBlock = some b
/-- What a store may write where no node is added. -/
def Lay.fq (L : Lay) (b : Nat) : Prop := L.va.ownBlock = some b ∨ L.vr.ownBlock = some b ∨ L.vf.ownBlock = some b
theorem Lay.fq_fp {L : Lay} {b : Nat} (h : L.fq b) : L.fp b := .inr (.inr h)

structure St (w : World) (base : Nat) (L : Lay) (S : PS) : Prop where
  blk : w.heap[L.g]? = some (.cells #[L.vn, L.va, L.vr, L.vf] 94 (0, 0))
  low : base ≤ L.g
  nodes : w.ownsRow base 73 3 L.vn S.nodes.length (ndCells S.nodes L.ad)
  above : w.ownsRow base 3 1 L.va S.nodes.length (nats S.above)
  ranks : w.ownsRow base 3 1 L.vr S.nodes.length (nats S.ranks)
  forms : w.ownsRow base 3 1 L.vf S.nodes.length (nats S.forms)
  ar : ∀ b, L.va.ownBlock = some b → L.vr.ownBlock ≠ some b
  af : ∀ b, L.va.ownBlock = some b → L.vf.ownBlock ≠ some b
  rf : ∀ b, L.vr.ownBlock = some b → L.vf.ownBlock ≠ some b
  ad : L.ad.length = S.nodes.length
  args : ∀ (i : Nat) (p : Nd) (a : Option Addr × Nat), S.nodes[i]? = some p → L.ad[i]? = some a → Nats w a.1 p.args ∧ ∀ x, a.1 = some x → x.block < w.heap.size ∧ ¬ L.fp x.block
  many : S.nodes.length ≤ 1000000
  few : ∀ (i : Nat) (p : Nd), S.nodes[i]? = some p → p.args.length ≤ 1000000

section
variable {w w' : World} {base : Nat} {L : Lay} {S : PS}
theorem St.la (h : St w base L S) : S.above.length = S.nodes.length := by have := h.above.1; simpa [nats] using this
theorem St.lr (h : St w base L S) : S.ranks.length = S.nodes.length := by have := h.ranks.1; simpa [nats] using this
theorem St.lf (h : St w base L S) : S.forms.length = S.nodes.length := by have := h.forms.1; simpa [nats] using this
theorem St.gcell (h : St w base L S) : w.cell? ⟨L.g, 0, none⟩ = some L.vn ∧ w.cell? ⟨L.g, 1, none⟩ = some L.va ∧ w.cell? ⟨L.g, 2, none⟩ = some L.vr ∧ w.cell? ⟨L.g, 3, none⟩ = some L.vf := by
  refine ⟨?_, ?_, ?_, ?_⟩ <;> (rw [cell_of_row _ _ _ _ _ _ h.blk]; rfl)
theorem St.glt (h : St w base L S) : L.g < w.heap.size := (Array.getElem?_eq_some_iff.1 h.blk).1
theorem St.fp_lt (h : St w base L S) (b : Nat) (hb : L.fp b) : base ≤ b ∧ b < w.heap.size := by
  rcases hb with rfl | hb | hb | hb | hb
  · exact ⟨h.low, h.glt⟩
  · exact h.nodes.lt b hb
  · exact h.above.lt b hb
  · exact h.ranks.lt b hb
  · exact h.forms.lt b hb
theorem nats_at {l : List Nat} {i : Nat} (hi : i < l.length) : (nats l)[i]? = some (.int .i64 (l[i] : Int)) := by
  unfold nats; rw [List.getElem?_map, List.getElem?_eq_getElem hi]; rfl
theorem own_nat {base e n : Nat} {v : Value} {l : List Nat} (h : w.ownsRow base e 1 v n (nats l)) {b cap m : Nat} (hv : v = .slice (some ⟨b, 0, none⟩) m cap) (i : Nat) (hi : i < l.length) : w.cell? ⟨b, i, none⟩ = some (.int .i64 (l[i] : Int)) := by
  have := h.cells (g := b) (by rw [hv]; rfl) i _ (nats_at hi)
  rcases Nat.eq_zero_or_pos i with rfl | hp
  · simpa [Addr.add] using this
  · simpa [Addr.add, show ¬ i = 0 by omega] using this
/-- All that lies elsewhere may change. -/
theorem St.only {F : Nat → Prop} (h : St w base L S) (ho : Only F w w') (hF : ∀ b, F b → b < w.heap.size → ¬ L.fp b) (hA : ∀ (i : Nat) (a : Option Addr × Nat), L.ad[i]? = some a → ∀ x, a.1 = some x → ¬ F x.block) : St w' base L S := by
  have hn : ∀ b, L.fp b → ¬ F b := fun b hb hf => hF b hf (h.fp_lt b hb).2 hb
  refine ⟨(ho.block L.g h.glt (hn _ (.inl rfl))).trans h.blk, h.low, own_only h.nodes ho fun b hb => hn b (.inr (.inl hb)), own_only h.above ho fun b hb => hn b (.inr (.inr (.inl hb))), own_only h.ranks ho fun b hb => hn b (.inr (.inr (.inr (.inl hb)))), own_only h.forms ho fun b hb => hn b (.inr (.inr (.inr (.inr hb)))),
    h.ar, h.af, h.rf, h.ad, fun i p a hi ha => ⟨Ints.only (h.args i p a hi ha).1 ho (hA i a ha), fun x hx => ⟨Nat.lt_of_lt_of_le ((h.args i p a hi ha).2 x hx).1 ho.size, ((h.args i p a hi ha).2 x hx).2⟩⟩, h.many, h.few⟩
theorem St.later (h : St w base L S) (hb : Below w.heap.size w w') : St w' base L S :=
  h.only (Only.of_below hb (fun _ => False)) (fun _ hf => hf.elim) (fun _ _ _ _ _ hf => hf.elim)
end

/-- What the parents are. -/
def par (l : List Nat) (i : Nat) : Nat := l[i]?.getD 0
theorem par_at {l : List Nat} {i : Nat} (hi : i < l.length) : l[i] = par l i := by unfold par; rw [List.getElem?_eq_getElem hi]; rfl

set_option maxHeartbeats 1000000 in
theorem find_any {w : World} {base : Nat} {L : Lay} {S : PS} {c d : Nat → Nat} (h : St w base L S) (hf : Forest S.nodes.length (par S.above) c d) (i : Nat) (hi : i < S.nodes.length) :
    Calls Try.prog 59 #[.pointer (some ⟨L.g, 0, none⟩), .int .i64 (i : Int)] w fun e w' => e = .returned (.int .i64 (c i : Int)) ∧ w = w' := by
  obtain ⟨ba, ca, hva, hca⟩ := own_pos h.above (by omega)
  have hg := h.gcell.2.1
  rw [hva] at hg
  have hm := h.many
  have hla := h.la
  have HA := hide (fun k (hk : k < S.nodes.length) => own_nat h.above hva k (by omega))
  clear hva
  go_enter Try.func59, Try.ntmps59
  go_wp2
  go_loop [1] (fun v => ∃ k : Nat, v = .int .i64 k ∧ k < S.nodes.length ∧ Hid (c k = c i)) (fun v => d (intOf v).toNat)
  case atStart => exact ⟨i, rfl, hi, hide rfl⟩
  case round =>
    obtain ⟨k, rfl, hk, HC⟩ := hrel
    have hcell := HA.out k hk
    obtain ⟨m, hm0⟩ : ∃ m, par S.above k = m := ⟨_, rfl⟩
    rw [par_at (by omega), hm0] at hcell
    have hmn := hf.lt k hk
    have Hsame := hide (hf.same k hk)
    have Hroot := hide (hf.root k hk)
    have Hfall := hide (hf.fall k hk)
    rw [hm0] at hmn Hsame Hroot Hfall
    clear hm0
    by_cases he : m = k
    · subst he
      have hne : ((m : Int) != (m : Int)) = false := by simp
      have Hm : Hid (m = c i) := hide ((Hroot.out rfl).symm.trans HC.out)
      clear Hroot Hsame Hfall
      go_wp2
      go_ret
      exact ⟨ret_int (by rw [← Hm.out]), rfl⟩
    · have hne : ((m : Int) != (k : Int)) = true := by simp; omega
      go_wp2
      go_round
      case rel => exact ⟨m, rfl, hmn, hide (Hsame.out.trans HC.out)⟩
      case measure => simp only [intOf, Int.toNat_natCast]; exact Hfall.out he

theorem len_any {w : World} {base : Nat} {L : Lay} {S : PS} (h : St w base L S) :
    Calls Try.prog 32 #[.pointer (some ⟨L.g, 0, none⟩)] w fun e w' => e = .returned (.int .i64 (S.nodes.length : Int)) ∧ w = w' := by
  obtain ⟨A, cap, hv, _, _⟩ := own_len h.nodes
  have hg := h.gcell.1
  rw [hv] at hg
  clear hv
  go_enter Try.func32, Try.ntmps32
  go_wp2
  go_ret
  exact ⟨rfl, rfl⟩

def allIn (n : Nat) (xs : List Int) : Bool := xs.all fun x => decide (0 ≤ x ∧ x < (n : Int))
set_option maxHeartbeats 1000000 in
theorem known_any {w : World} {base : Nat} {L : Lay} {S : PS} (h : St w base L S) (A : Option Addr) (c : Nat) (xs : List Int) (hx : Ints w A xs) (hl : xs.length ≤ 1000000) :
    Calls Try.prog 37 #[.pointer (some ⟨L.g, 0, none⟩), .slice A xs.length c] w fun e w' => e = .returned (.bool (allIn S.nodes.length xs)) ∧ w = w' := by
  obtain ⟨A0, cap, hv, _, _⟩ := own_len h.nodes
  have hg := h.gcell.1
  rw [hv] at hg
  have hm := h.many
  clear hv
  go_enter Try.func37, Try.ntmps37
  go_wp2
  go_loop [9] (fun v => ∃ k : Nat, v = .int .i64 k ∧ k ≤ xs.length ∧ Hid (allIn S.nodes.length (xs.take k) = true)) (fun v => xs.length - (intOf v).toNat)
  case atStart => exact ⟨0, rfl, by omega, hide (by simp [allIn])⟩
  case round =>
    obtain ⟨k, rfl, hk, HA⟩ := hrel
    by_cases hlt : k < xs.length
    · obtain ⟨b, off, rfl, hb, hc⟩ := hx.at_ k hlt
      obtain ⟨x, hx0⟩ : ∃ x, xs[k] = x := ⟨_, rfl⟩
      rw [hx0] at hc
      have HX := hide hx0
      clear hx0
      by_cases hin : 0 ≤ x ∧ x < (S.nodes.length : Int)
      · obtain ⟨h0, h1⟩ := hin
        have k1 : decide (x < 0) = false := by simp; omega
        have k2 : decide ((S.nodes.length : Int) ≤ x) = false := by simp; omega
        go_wp2
        go_round
        case rel => exact ⟨k + 1, by go_num, by omega, hide (by rw [List.take_succ_eq_append_getElem hlt, HX.out]; have := HA.out; unfold allIn at this ⊢; rw [List.all_append, this]; simp [h0, h1])⟩
        case measure => simp [intOf]; omega
      · have hno : allIn S.nodes.length xs = false := by
          unfold allIn
          rw [List.all_eq_false]
          exact ⟨x, by rw [← HX.out]; exact List.getElem_mem hlt, by simpa using hin⟩
        have HN := hide hno
        clear hno
        rcases (show x < 0 ∨ (0 ≤ x ∧ (S.nodes.length : Int) ≤ x) by omega) with h0 | ⟨h0, h1⟩
        · have k1 : decide (x < 0) = true := by simpa using h0
          go_wp2
          go_ret
          exact ⟨ret_bool HN.out.symm, rfl⟩
        · have k1 : decide (x < 0) = false := by simpa using h0
          have k2 : decide ((S.nodes.length : Int) ≤ x) = true := by simpa using h1
          go_wp2
          go_ret
          exact ⟨ret_bool HN.out.symm, rfl⟩
    · go_wp2
      go_ret
      exact ⟨ret_bool (by rw [← HA.out, List.take_of_length_le (by omega)]), rfl⟩
end Go.Proofs.Ytafpbdmggnfdnaa
