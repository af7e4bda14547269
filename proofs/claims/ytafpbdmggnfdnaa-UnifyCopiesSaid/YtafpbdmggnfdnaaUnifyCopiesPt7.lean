/- Part 7 of the proof of UnifyCopies: what follows was kept as these texts: Seq, Marks, PlainSearch, MapIn. -/
import Derived.Test.YtafpbdmggnfdnaaUnifyCopiesPt1
import Derived.Test.YtafpbdmggnfdnaaUnifyCopiesPt2
import Derived.Test.YtafpbdmggnfdnaaUnifyCopiesPt3
import Derived.Test.YtafpbdmggnfdnaaUnifyCopiesPt4
import Derived.Test.YtafpbdmggnfdnaaUnifyCopiesPt5
import Derived.Test.YtafpbdmggnfdnaaUnifyCopiesPt6
import Derived.Maps.OwnIn
/- A range over a function that writes memory of its own between two rounds: what such a function promises, and the law for its caller. -/
namespace Go.Proofs.Ytafpbdmggnfdnaa
open Go.RowKit Go.Shelf
set_option linter.unusedVariables false

/-- The function hands over just Y, in this order, or a beginning of it where a round says no. Rounds change Fp and what is theirs alone (M: the blocks that rounds have made); the function changes only what it has made itself. -/
def SeqZ {α : Type} (n : Nat) (P : Program) (g : Nat) (lb : Array Value) (encs : α → Array Value) (Fp : Nat → Prop) (Y : List α) (w : World) : Prop :=
  ∀ (l : Nat) (J : List α → (Nat → Prop) → World → Prop) (Jx : (Nat → Prop) → World → Prop) (W : World), Below w.heap.size w W →
    (∀ pre M W1 W2, J pre M W1 → Only (fun b => W.heap.size ≤ b ∧ ¬ M b) W1 W2 → J pre M W2) →
    (∀ M W1 W2, Jx M W1 → Only (fun b => W.heap.size ≤ b ∧ ¬ M b) W1 W2 → Jx M W2) →
    (∀ pre x M W1, J pre M W1 → pre ++ [x] <+: Y → YieldAt Fence.wide (n - 1) P l (encs x) W1 fun e W' =>
      (e = .returned (.bool true) ∧ (∃ M', J (pre ++ [x]) M' W' ∧ ∀ b, M' b → M b ∨ (W1.heap.size ≤ b ∧ b < W'.heap.size)) ∧ Only (fun b => Fp b ∨ M b) W1 W') ∨ (e = .returned (.bool false) ∧ (∃ M', Jx M' W' ∧ ∀ b, M' b → M b ∨ (W1.heap.size ≤ b ∧ b < W'.heap.size)) ∧ Only (fun b => b < W.heap.size ∨ M b) W1 W')) →
    J [] (fun _ => False) W →
    CallsIn Fence.wide n P g (#[.func (.yield l) #[] #[]] ++ lb) W fun e W' => (∃ v, e = .returned v) ∧ ((∃ M, J Y M W') ∨ ∃ M, Jx M W')

/-- How the body of a round may be left. -/
def ZPost {α : Type} (Fp : Nat → Prop) (I : List α → (Nat → Prop) → World → Prop) (Ix : Code → (Nat → Prop) → World → Prop) (xs : List α) (M : Nat → Prop) (W : World) : Exit → Act → World → Prop
  | .normal, _, W' => (∃ M', I xs M' W' ∧ ∀ b, M' b → M b ∨ (W.heap.size ≤ b ∧ b < W'.heap.size)) ∧ Only (fun b => Fp b ∨ M b) W W'
  | .ret, _, W' => Only (fun b => Fp b ∨ M b) W W' ∧ ∃ M', Ix .ret M' W' ∧ ∀ b, M' b → M b ∨ (W.heap.size ≤ b ∧ b < W'.heap.size)
  | .exit id, _, W' => Only (fun b => Fp b ∨ M b) W W' ∧ ∃ M', Ix (.exit id) M' W' ∧ ∀ b, M' b → M b ∨ (W.heap.size ≤ b ∧ b < W'.heap.size)
  | .goto t, _, W' => Only (fun b => Fp b ∨ M b) W W' ∧ ∃ M', Ix (.goto t) M' W' ∧ ∀ b, M' b → M b ∨ (W.heap.size ≤ b ∧ b < W'.heap.size)
  | .panic _, _, _ => False
  | .outgrown, _, _ => False

theorem only_put {W : World} {l : Nat} (o : Obj) : Only (fun b => b = l) W (W.putObj l o) := (only_of_grown (grownBy_putObj' W l o)).mono fun b _ e => by injection e with e; exact e.symm

theorem wpZ_rangeFunc {α : Type} {P : Program} {n : Nat} {gop : Operand} {ps : Array Tmp} {assign body : Code} {Q : Exit → Act → World → Prop} {a : Act} {w : World} {gf : Nat} {lb : Array Value} (h1 : 1 ≤ n) (hg : a.eval gop = .func (.func gf) #[] lb) (eg : ∀ args w, (callFunc gf args).run P w = .ok (.enter gf args) w)
    {encs : α → Array Value} {Fp : Nat → Prop} {Y : List α} (hseq : SeqZ (n - 1) P gf lb encs Fp Y w) (hps : ∀ x, (encs x).size = ps.size) (hFp : ∀ b, Fp b → b < w.heap.size)
    (I : List α → (Nat → Prop) → World → Prop) (Ix : Code → (Nat → Prop) → World → Prop) (hI : ∀ pre M W1 W2, I pre M W1 → Only (fun b => w.heap.size ≤ b ∧ ¬ M b) W1 W2 → I pre M W2) (hIx : ∀ c M W1 W2, Ix c M W1 → Only (fun b => w.heap.size ≤ b ∧ ¬ M b) W1 W2 → Ix c M W2) (h0 : I [] (fun _ => False) w) (a₁ : α → Act)
    (hassign : ∀ (l : Nat) (x : α) (W : World) (K : Act → World → Prop), K (a₁ x) W → assign.wpIn (Fence.wide.inRound l) (n - 1 - 1) P (Exit.then K (fun _ _ _ => False)) { tmps := (ps.zip (encs x)).foldl (fun t (q, v) => t.setIfInBounds q v) a.tmps, defers := [] } W)
    (hbody : ∀ (l : Nat) (pre : List α) (x : α) (M : Nat → Prop) (W : World), pre ++ [x] <+: Y → w.heap.size + 2 ≤ W.heap.size → (∀ b, M b → w.heap.size + 2 ≤ b) → I pre M W → body.wpIn (Fence.wide.inRound l) (n - 1 - 1) P (ZPost Fp I Ix (pre ++ [x]) M W) (a₁ x) W)
    (hdone : ∀ (M : Nat → Prop) (W : World), w.heap.size + 2 ≤ W.heap.size → (∀ b, M b → w.heap.size + 2 ≤ b) → I Y M W → W.heap[w.heap.size]? = some (.deferred (some [])) → Q .normal { a with defers := { target := .collected w.heap.size, args := #[] } :: a.defers } W)
    (hstop : ∀ (c : Code) (M : Nat → Prop) (W : World), w.heap.size + 2 ≤ W.heap.size → (∀ b, M b → w.heap.size + 2 ≤ b) → Ix c M W → W.heap[w.heap.size]? = some (.deferred (some [])) → c.wpIn Fence.wide n P Q { a with defers := { target := .collected w.heap.size, args := #[] } :: a.defers } W) :
    (Code.rangeFunc gop ps assign body).wpIn Fence.wide n P Q a w := by
  refine wpIn_rangeFunc ?_
  intro fn hfn
  obtain ⟨rc, hrc⟩ : ∃ rc : LoopState → Option Code → Loop, rc = fun st pe => { state := st, pending := pe, fn, tmps := a.tmps, params := ps, assign, body, defers := w.heap.size } := ⟨_, rfl⟩
  obtain ⟨W1, hW1⟩ : ∃ W1, (w.alloc (.deferred (some []))).alloc (.loop (rc .ready none)) = W1 := ⟨_, rfl⟩
  have hz1 : W1.heap.size = w.heap.size + 2 := by rw [← hW1]; simp
  have hL1 : W1.heap[w.heap.size + 1]? = some (.loop (rc .ready none)) := by
    rw [← hW1]; have := heap_alloc_new (w.alloc (.deferred (some []))) (.loop (rc .ready none)); rwa [World.size_alloc] at this
  have hK1 : W1.heap[w.heap.size]? = some (.deferred (some [])) := by
    rw [← hW1, Below.heap_alloc _ _ _ (by simp)]; exact heap_alloc_new w _
  have hb1 : Below w.heap.size w W1 := by rw [← hW1]; exact ((Below.refl _ w).alloc (Nat.le_refl _) _).alloc (by simp) _
  refine ⟨w.heap.size + 1, [{ target := .collected w.heap.size, args := #[] }], W1, { target := .fn (.func gf) lb, args := #[.func (.yield (w.heap.size + 1)) #[] #[]] }, W1, gf, #[.func (.yield (w.heap.size + 1)) #[] #[]] ++ lb, W1, ?_, ?_, fun _ _ => trivial, ?_, fun _ => h1, ?_⟩
  · rw [← hW1, hrc]; exact run_enterLoop_outer _ _ _ _ _
  · simp only [resolve, hg]
    simp [go_sem]
  · simp [invoke, go_sem, eg]
  · have hI1 : I [] (fun _ => False) W1 := hI _ _ _ _ h0 (Only.of_below hb1 _)
    refine (hseq (w.heap.size + 1)
      (fun pre M W => I pre M W ∧ W.heap[w.heap.size + 1]? = some (.loop (rc .ready none)) ∧ W.heap[w.heap.size]? = some (.deferred (some [])) ∧ (∀ b, M b → w.heap.size + 2 ≤ b))
      (fun M W => ∃ c, Ix c M W ∧ W.heap[w.heap.size + 1]? = some (.loop (rc .done (some c))) ∧ W.heap[w.heap.size]? = some (.deferred (some [])) ∧ (∀ b, M b → w.heap.size + 2 ≤ b))
      W1 hb1 ?_ ?_ ?_ ⟨hI1, hL1, hK1, fun _ hf => hf.elim⟩).mono ?_
    · rintro pre M Wa Wb ⟨j1, j2, j3, j4⟩ ho
      have hla : w.heap.size + 1 < Wa.heap.size := (Array.getElem?_eq_some_iff.1 j2).1
      exact ⟨hI _ _ _ _ j1 (ho.mono fun b _ hb => ⟨by omega, hb.2⟩), (ho.block _ hla (fun hb => by omega)).trans j2, (ho.block _ (by omega) (fun hb => by omega)).trans j3, j4⟩
    · rintro M Wa Wb ⟨c, j1, j2, j3, j4⟩ ho
      have hla : w.heap.size + 1 < Wa.heap.size := (Array.getElem?_eq_some_iff.1 j2).1
      exact ⟨c, hIx _ _ _ _ j1 (ho.mono fun b _ hb => ⟨by omega, hb.2⟩), (ho.block _ hla (fun hb => by omega)).trans j2, (ho.block _ (by omega) (fun hb => by omega)).trans j3, j4⟩
    · rintro pre x M W ⟨j1, j2, j3, j4⟩ hpre
      have hlt : w.heap.size + 1 < W.heap.size := (Array.getElem?_eq_some_iff.1 j2).1
      have hy := run_yield (P := P) (args := encs x) j2 (by rw [hrc]; exact hps x)
      rw [hrc] at hy
      have hnf : ¬ (Fp (w.heap.size + 1) ∨ M (w.heap.size + 1)) := by
        rintro (hf | hf)
        · have := hFp _ hf; omega
        · have := j4 _ hf; omega
      have hnf0 : ¬ (Fp w.heap.size ∨ M w.heap.size) := by
        rintro (hf | hf)
        · have := hFp _ hf; omega
        · have := j4 _ hf; omega
      refine ⟨fn, _, assign, body, hy, roundIn_of_wpIn trivial (hassign _ x W _ ?_)⟩
      clear hy
      refine ⟨_, run_beginRound j2 (by rw [hrc]), ?_⟩
      obtain ⟨W2, hW2⟩ : ∃ W2, W.putObj (w.heap.size + 1) (.loop { rc .ready none with state := .busy }) = W2 := ⟨_, rfl⟩
      have l2 : W2.heap[w.heap.size + 1]? = some (.loop { rc .ready none with state := .busy }) := by rw [← hW2]; exact World.putObj_heap_same hlt
      have o2 : Only (fun b => b = w.heap.size + 1) W W2 := by rw [← hW2]; exact only_put _
      have k2 : W2.heap[w.heap.size]? = some (.deferred (some [])) := (o2.block _ (by omega) (by omega)).trans j3
      rw [hW2]
      have i2 : I pre M W2 := hI _ _ _ _ j1 (o2.mono fun b _ e => ⟨by omega, fun hm => by have := j4 _ hm; omega⟩)
      refine wpIn_mono (hbody _ pre x M W2 hpre (by have := o2.size; omega) j4 i2) ?_
      have fin : ∀ (jump : Option Code) (W3 : World), Only (fun b => Fp b ∨ M b) W2 W3 → (Instr.endRound (w.heap.size + 1) jump).run P W3 = .ok (.bool jump.isNone) (W3.putObj (w.heap.size + 1) (.loop (rc (if jump.isNone then .ready else .done) jump))) ∧
          (W3.putObj (w.heap.size + 1) (.loop (rc (if jump.isNone then .ready else .done) jump))).heap[w.heap.size + 1]? = some (.loop (rc (if jump.isNone then .ready else .done) jump)) ∧
          (W3.putObj (w.heap.size + 1) (.loop (rc (if jump.isNone then .ready else .done) jump))).heap[w.heap.size]? = some (.deferred (some [])) := by
        intro jump W3 o3
        have hs2 := o2.size
        have l3 := (o3.block _ (by omega) hnf).trans l2
        have hr := run_endRound (P := P) jump l3
        rw [hrc] at hr ⊢
        exact ⟨hr, World.putObj_heap_same (Array.getElem?_eq_some_iff.1 l3).1, ((only_put _).block _ (by have := o3.size; omega) (by omega)).trans ((o3.block _ (by omega) hnf0).trans k2)⟩
      have fin2 : ∀ (cc : Code) (W3 : World), Only (fun b => Fp b ∨ M b) W2 W3 → (∃ M', Ix cc M' W3 ∧ ∀ b, M' b → M b ∨ (W2.heap.size ≤ b ∧ b < W3.heap.size)) →
          (∃ M', (∃ c, Ix c M' (W3.putObj (w.heap.size + 1) (.loop (rc .done (some cc)))) ∧ (W3.putObj (w.heap.size + 1) (.loop (rc .done (some cc)))).heap[w.heap.size + 1]? = some (.loop (rc .done (some c))) ∧ (W3.putObj (w.heap.size + 1) (.loop (rc .done (some cc)))).heap[w.heap.size]? = some (.deferred (some [])) ∧ (∀ b, M' b → w.heap.size + 2 ≤ b)) ∧ ∀ b, M' b → M b ∨ (W.heap.size ≤ b ∧ b < (W3.putObj (w.heap.size + 1) (.loop (rc .done (some cc)))).heap.size)) ∧ Only (fun b => b < W1.heap.size ∨ M b) W (W3.putObj (w.heap.size + 1) (.loop (rc .done (some cc)))) := by
        rintro cc W3 o3 ⟨M', i3, hM'⟩
        obtain ⟨-, l4, k4⟩ := fin (some cc) W3 o3
        have hs2 := o2.size
        have o4 : Only (fun b => b = w.heap.size + 1) W3 (W3.putObj (w.heap.size + 1) (.loop (rc .done (some cc)))) := only_put _
        have hM2 : ∀ b, M' b → w.heap.size + 2 ≤ b := fun b hb => by rcases hM' b hb with h2 | h2; exact j4 b h2; omega
        refine ⟨⟨M', ⟨cc, hIx _ _ _ _ i3 (o4.mono fun b _ e => ⟨by omega, fun hm => by have := hM2 _ hm; omega⟩), l4, k4, hM2⟩, fun b hb => (hM' b hb).imp id fun h2 => ⟨by omega, Nat.lt_of_lt_of_le h2.2 o4.size⟩⟩, ?_⟩
        have oA : Only (fun b => b < W1.heap.size ∨ M b) W W2 := o2.mono fun b _ e => .inl (by omega)
        have oB : Only (fun b => b < W1.heap.size ∨ M b) W W3 := oA.then_ o3 (fun b hb _ => hb.imp (fun h => by have := hFp _ h; omega) id)
        exact oB.then_ o4 (fun b hb _ => .inl (by omega))
      rintro e a3 W3 hp
      cases e with
      | normal =>
        obtain ⟨⟨M', i3, hM'⟩, o3⟩ := hp
        obtain ⟨hr, l4, k4⟩ := fin none W3 o3
        have hs2 := o2.size
        have o4 : Only (fun b => b = w.heap.size + 1) W3 (W3.putObj (w.heap.size + 1) (.loop (rc .ready none))) := only_put _
        have hM2 : ∀ b, M' b → w.heap.size + 2 ≤ b := fun b hb => by rcases hM' b hb with h2 | h2; exact j4 b h2; omega
        refine ⟨_, _, hr, .inl ⟨rfl, ⟨M', ⟨hI _ _ _ _ i3 (o4.mono fun b _ e => ⟨by omega, fun hm => by have := hM2 _ hm; omega⟩), l4, k4, hM2⟩, fun b hb => (hM' b hb).imp id fun h2 => ⟨by omega, Nat.lt_of_lt_of_le h2.2 o4.size⟩⟩, ?_⟩⟩
        have oA : Only (fun b => b = w.heap.size + 1 ∨ Fp b ∨ M b) W W2 := o2.mono fun _ _ e => .inl e
        have oB : Only (fun b => b = w.heap.size + 1 ∨ Fp b ∨ M b) W W3 := oA.then_ o3 (fun b hb _ => .inr hb)
        have hall : Only (fun b => b = w.heap.size + 1 ∨ Fp b ∨ M b) W (W3.putObj (w.heap.size + 1) (.loop (rc .ready none))) := oB.then_ o4 (fun b hb _ => .inl hb)
        refine ⟨hall.os, hall.tape, hall.output, hall.size, fun b hb hn => ?_⟩
        by_cases e : b = w.heap.size + 1
        · rw [e]; exact l4.trans j2.symm
        · exact hall.block b hb (fun h2 => h2.elim e hn)
      | ret =>
        obtain ⟨o3, i3⟩ := hp
        obtain ⟨hr, l4, k4⟩ := fin (some .ret) W3 o3
        exact ⟨_, _, hr, .inr ⟨rfl, fin2 .ret W3 o3 i3⟩⟩
      | exit id =>
        obtain ⟨o3, i3⟩ := hp
        obtain ⟨hr, l4, k4⟩ := fin (some (.exit id)) W3 o3
        exact ⟨_, _, hr, .inr ⟨rfl, fin2 (.exit id) W3 o3 i3⟩⟩
      | goto t =>
        obtain ⟨o3, i3⟩ := hp
        obtain ⟨hr, l4, k4⟩ := fin (some (.goto t)) W3 o3
        exact ⟨_, _, hr, .inr ⟨rfl, fin2 (.goto t) W3 o3 i3⟩⟩
      | panic ch => exact hp.elim
      | outgrown => exact hp.elim
    · rintro e W2 ⟨⟨v, rfl⟩, (⟨M, j1, j2, j3, j4⟩ | ⟨M, c, i2, l2, k2, m2⟩)⟩
      · have hlt : w.heap.size + 1 < W2.heap.size := (Array.getElem?_eq_some_iff.1 j2).1
        have o3 : ∀ o, Only (fun b => b = w.heap.size + 1) W2 (W2.putObj (w.heap.size + 1) o) := fun o => only_put o
        refine ⟨none, _, by have := run_endLoop (P := P) j2 (by rw [hrc]; simp); rw [hrc] at this; exact this, hdone M _ (by simp; omega) j4 (hI _ _ _ _ j1 ((only_put _).mono fun b _ e => ⟨by omega, fun hm => by have := j4 _ hm; omega⟩)) (((only_put _).block _ (by omega) (by omega)).trans j3)⟩
      · have hlt : w.heap.size + 1 < W2.heap.size := (Array.getElem?_eq_some_iff.1 l2).1
        refine ⟨some c, _, by have := run_endLoop (P := P) l2 (by rw [hrc]; simp); rw [hrc] at this; exact this, hstop c M _ (by simp; omega) m2 (hIx _ _ _ _ i2 ((only_put _).mono fun b _ e => ⟨by omega, fun hm => by have := m2 _ hm; omega⟩)) (((only_put _).block _ (by omega) (by omega)).trans k2)⟩

attribute [local go_sem] Oper.semAt_some
set_option maxRecDepth 100000 in
set_option maxHeartbeats 2000000 in
/-- slices.Backward over a slice of numbers. -/
theorem backInts_in (n : Nat) (hn : 1 ≤ n) (l Bs : Nat) (Fp : Nat → Prop) (A : Option Addr) (cap : Nat) (xs : List Nat) (hlen : xs.length ≤ 1000000) (J : List (Nat × Nat) → (Nat → Prop) → World → Prop) (Jx : (Nat → Prop) → World → Prop) (W : World)
    (hM : ∀ pre M W1, J pre M W1 → ∀ b, M b → W.heap.size ≤ b)
    (hY : ∀ pre x M W1, J pre M W1 → pre ++ [x] <+: (xs.zipIdx).reverse → YieldAt Fence.wide (n - 1) Try.prog l #[.int .i64 (x.2 : Int), .int .i64 (x.1 : Int)] W1 fun e W' =>
      (e = .returned (.bool true) ∧ (∃ M', J (pre ++ [x]) M' W' ∧ ∀ b, M' b → M b ∨ (W1.heap.size ≤ b ∧ b < W'.heap.size)) ∧ Only (fun b => Fp b ∨ M b) W1 W') ∨ (e = .returned (.bool false) ∧ (∃ M', Jx M' W' ∧ ∀ b, M' b → M b ∨ (W1.heap.size ≤ b ∧ b < W'.heap.size)) ∧ Only (fun b => b < W.heap.size ∨ M b) W1 W'))
    (hB : W.cell? ⟨Bs, 0, none⟩ = some (.slice A xs.length cap)) (hBF : ¬ Fp Bs) (hc : Nats W A xs) (hcF : ∀ a, A = some a → ¬ Fp a.block) (h0 : J [] (fun _ => False) W) :
    CallsIn Fence.wide n Try.prog 67 #[.func (.yield l) #[] #[], .pointer (some ⟨Bs, 0, none⟩)] W fun e W' => (∃ v, e = .returned v) ∧ ((∃ M, J (xs.zipIdx).reverse M W') ∨ ∃ M, Jx M W') := by
  refine callsIn_of_wp Try.func67 rfl trivial ?_ rfl
  simp only [Try.ntmps67, List.size_toArray, List.length_cons, List.length_nil, Nat.reduceAdd, Nat.reduceSub, Array.replicate_succ, Array.replicate_zero, List.push_toArray, List.append_toArray, List.nil_append, List.cons_append]
  have hBl := World.block_lt_of_cell? W _ hB
  gi_wp2
  gi_loopw [3] (fun i wr => ∃ (m : Nat) (M : Nat → Prop), m ≤ xs.length ∧ i = .int .i64 ((m : Int) - 1) ∧ J (xs.zipIdx.drop m).reverse M wr ∧ Only (fun b => Fp b ∨ W.heap.size ≤ b) W wr) (fun i _ => (intOf i + 1).toNat)
  case atStart => exact ⟨xs.length, fun _ => False, Nat.le_refl _, rfl, by rw [List.drop_of_length_le (by simp)]; exact h0, Only.refl _ _⟩
  case round =>
    obtain ⟨m, M, hm, rfl, hJs, ho⟩ := hrel
    rcases m with _ | m
    · rw [show ((0 : Nat) : Int) - 1 = -1 by omega]
      gi_wp2
      go_end0
      exact ⟨⟨_, rfl⟩, .inl ⟨M, by simpa using hJs⟩⟩
    · rw [show ((m + 1 : Nat) : Int) - 1 = (m : Int) by omega]
      obtain ⟨b, off, rfl, hb, d0⟩ := hc.at_ m (by simp [cast]; omega)
      simp only [cast, List.getElem_map] at d0
      have hnb : ¬ (Fp b ∨ W.heap.size ≤ b) := by
        rintro (h1 | h1)
        · exact hcF _ rfl h1
        · omega
      have cx : wr.cell? ⟨Bs, 0, none⟩ = some (.slice (some ⟨b, off, none⟩) xs.length cap) := (ho.cell (p := ⟨Bs, 0, none⟩) hBl (by rintro (h1 | h1); exact hBF h1; simp only at h1 hBl; omega)).trans hB
      have e0 := (ho.cell (p := ⟨b, off + m, none⟩) hb hnb).trans d0
      have hz : xs.zipIdx.drop m = (xs[m]'(by omega), m) :: xs.zipIdx.drop (m + 1) := by
        rw [List.drop_eq_getElem_cons (by simp; omega)]; simp
      have hrev : (xs.zipIdx.drop m).reverse = (xs.zipIdx.drop (m + 1)).reverse ++ [(xs[m]'(by omega), m)] := by rw [hz, List.reverse_cons]
      have hpre : (xs.zipIdx.drop (m + 1)).reverse ++ [(xs[m]'(by omega), m)] <+: xs.zipIdx.reverse := by
        rw [← hrev]
        refine ⟨(xs.zipIdx.take m).reverse, ?_⟩
        rw [← List.reverse_append, List.take_append_drop]
      obtain ⟨fn, tmps, assign, body, hy, hR⟩ := hY _ _ M wr hJs hpre
      have hMM := hM _ _ _ hJs
      obtain ⟨x, hx⟩ : ∃ x, xs[m]'(by omega) = x := ⟨_, rfl⟩
      rw [hx] at e0 hy hR
      simp only at hy
      have HD : Hid ((xs.zipIdx.drop m).reverse = (xs.zipIdx.drop (m + 1)).reverse ++ [(x, m)]) := hide (by rw [hrev, hx])
      clear hx d0 hz hrev hpre
      gi_wp2
      refine hR.mono ?_
      rintro e W3 (⟨rfl, ⟨M', hJ3, hM'⟩, hk3⟩ | ⟨rfl, ⟨M', hJx3, -⟩, -⟩)
      · gi_wp2
        go_roundw
        case rel => exact ⟨m, M', by omega, rfl, by rw [HD.out]; exact hJ3, ho.trans (hk3.mono fun b _ hb => hb.imp id (hMM b))⟩
        case measure => simp [intOf]
      · gi_wp2
        refine bodyPost_ret (results_none rfl _ _ _) rfl ?_
        exact ⟨⟨_, rfl⟩, .inr ⟨M', hJx3⟩⟩
end Go.Proofs.Ytafpbdmggnfdnaa

/- A function in whose loop a range over a function stands: each such range leaves a mark; at the end all are taken. -/
namespace Go.Proofs.Ytafpbdmggnfdnaa
open Go.RowKit Go.Shelf
set_option linter.unusedVariables false

def marks (Ds : List Nat) : List Deferred := Ds.map fun D => { target := .collected D, args := #[] }
/-- The marks' blocks: each holds no call; they are apart. -/
structure Marked (Ds : List Nat) (W : World) : Prop where
  nodup : Ds.Nodup
  at_ : ∀ D ∈ Ds, W.heap[D]? = some (.deferred (some []))
theorem Marked.keep {Ds : List Nat} {W W' : World} (h : Marked Ds W) (hk : ∀ D ∈ Ds, W'.heap[D]? = W.heap[D]?) : Marked Ds W' := ⟨h.nodup, fun D hD => (hk D hD).trans (h.at_ D hD)⟩
theorem Marked.lt {Ds : List Nat} {W : World} (h : Marked Ds W) (D : Nat) (hD : D ∈ Ds) : D < W.heap.size := (Array.getElem?_eq_some_iff.1 (h.at_ D hD)).1
theorem Marked.cons {Ds : List Nat} {W : World} {D : Nat} (h : Marked Ds W) (hD : W.heap[D]? = some (.deferred (some []))) (hn : D ∉ Ds) : Marked (D :: Ds) W :=
  ⟨List.nodup_cons.2 ⟨hn, h.nodup⟩, fun E hE => by
    rcases List.mem_cons.1 hE with rfl | hE
    · exact hD
    · exact h.at_ E hE⟩
theorem leaves_marks {P : Program} {n : Nat} {fn : Func} {tmps : Array Value} {R : Ending → World → Prop} (hres : fn.results = #[]) (Ds : List Nat) : ∀ (W : World), Marked Ds W → (∀ W', Only (fun b => b ∈ Ds) W W' → ∀ v, R (.returned v) W') → LeavesInM Fence.wide n P fn tmps R (marks Ds) .returning W := by
  induction Ds with
  | nil =>
    intro W _ hR
    exact ⟨_, results_none hres _ _ _, hR W (Only.refl _ _) _⟩
  | cons D Ds ih =>
    intro W hm hR
    have hnd := List.nodup_cons.1 hm.nodup
    refine ⟨by simp, .inl ⟨D, _, rfl, run_takeDeferred (hm.at_ D List.mem_cons_self), ih _ ⟨hnd.2, fun E hE => ?_⟩ (fun W' ho v => hR W' ?_ v)⟩⟩
    · exact ((only_put (l := D) _).block E (hm.lt E (List.mem_cons_of_mem _ hE)) (by rintro rfl; exact hnd.1 hE)).trans (hm.at_ E (List.mem_cons_of_mem _ hE))
    · exact ((only_put (l := D) _).mono fun b _ e => by rw [e]; exact List.mem_cons_self).then_ ho (fun b hb _ => List.mem_cons_of_mem _ hb)
end Go.Proofs.Ytafpbdmggnfdnaa

/- Plain: a search for variables from the left, each class once. -/
namespace Go.Proofs.Ytafpbdmggnfdnaa
set_option linter.unusedVariables false

/-- What is not there yet is put behind. -/
def addNew (acc vs : List Nat) : List Nat := vs.foldl (fun acc v => if v ∈ acc then acc else acc ++ [v]) acc
theorem addNew_append (acc a b : List Nat) : addNew acc (a ++ b) = addNew (addNew acc a) b := by unfold addNew; rw [List.foldl_append]
theorem addNew_old (acc vs : List Nat) (h : ∀ v ∈ vs, v ∈ acc) : addNew acc vs = acc := by
  unfold addNew
  induction vs with
  | nil => rfl
  | cons v vs ih => rw [List.foldl_cons, if_pos (h v List.mem_cons_self)]; exact ih (fun u hu => h u (List.mem_cons_of_mem _ hu))
theorem addNew_one (acc : List Nat) (v : Nat) (h : v ∉ acc) : addNew acc [v] = acc ++ [v] := by simp [addNew, h]
theorem addNew_prefix (acc vs : List Nat) : acc <+: addNew acc vs := by
  unfold addNew
  induction vs generalizing acc with
  | nil => exact List.prefix_refl _
  | cons v vs ih =>
    rw [List.foldl_cons]
    split
    · exact ih acc
    · exact (List.prefix_append acc [v]).trans (ih _)
theorem addNew_mem (acc vs : List Nat) (u : Nat) : u ∈ addNew acc vs ↔ u ∈ acc ∨ u ∈ vs := by
  unfold addNew
  induction vs generalizing acc with
  | nil => simp
  | cons v vs ih =>
    rw [List.foldl_cons, ih]
    split
    · rename_i hv
      simp only [List.mem_cons]
      constructor
      · rintro (h | h)
        · exact .inl h
        · exact .inr (.inr h)
      · rintro (h | rfl | h)
        · exact .inl h
        · exact .inl hv
        · exact .inr h
    · simp only [List.mem_append, List.mem_cons, List.mem_singleton]
      constructor
      · rintro ((h | h) | h)
        · exact .inl h
        · rcases h with h | h
          · exact .inr (.inl h)
          · cases h
        · exact .inr (.inr h)
      · rintro (h | h | h)
        · exact .inl (.inl h)
        · exact .inl (.inr (.inl h))
        · exact .inr h
theorem addNew_nodup (acc vs : List Nat) (h : acc.Nodup) : (addNew acc vs).Nodup := by
  unfold addNew
  induction vs generalizing acc with
  | nil => exact h
  | cons v vs ih =>
    rw [List.foldl_cons]
    split
    · exact ih acc h
    · rename_i hv
      refine ih _ ?_
      rw [List.nodup_append]
      refine ⟨h, by simp, ?_⟩
      intro a ha b hb
      simp at hb
      subst hb
      intro e; subst e; exact hv ha

/-- The variables within each node. -/
structure VarsOf (n : Nat) (c : Nat → Nat) (head : Nat → Option (List Nat)) (g : Nat → Nat) (tv : Nat → List Nat) : Prop where
  root : ∀ i, i < n → c i < n ∧ c (c i) = c i
  cls : ∀ i, i < n → tv (c i) = tv i
  var : ∀ r, r < n → c r = r → head r = none → tv r = [r]
  con : ∀ r al, r < n → c r = r → head r = some al → tv r = al.flatMap tv ∧ ∀ x ∈ al, x < n ∧ g (c x) < g r
structure VInv (n : Nat) (c g : Nat → Nat) (tv : Nat → List Nat) (seen : Nat → Nat) (acc stack Y : List Nat) : Prop where
  lt : ∀ x ∈ stack, x < n
  near : ∀ r, seen r ≠ 0 → r < n ∧ c r = r ∧ ∀ v ∈ tv r, v ∈ acc ∨ ∃ x ∈ stack.takeWhile (fun x => decide (g (c x) < g r)), v ∈ tv x
  old : ∀ v ∈ acc, seen v ≠ 0
  total : addNew acc (stack.flatMap tv) = Y
section
variable {n : Nat} {c g : Nat → Nat} {head : Nat → Option (List Nat)} {tv : Nat → List Nat} {seen : Nat → Nat} {acc Y : List Nat}
theorem VInv.skip {x : Nat} {rest : List Nat} (V : VarsOf n c head g tv) (h : VInv n c g tv seen acc (x :: rest) Y) (hs : seen (c x) ≠ 0) : VInv n c g tv seen acc rest Y := by
  have hx := h.lt x List.mem_cons_self
  have hdone : ∀ v ∈ tv x, v ∈ acc := by
    intro v hv
    obtain ⟨_, _, h3⟩ := h.near (c x) hs
    rcases h3 v (by rw [V.cls x hx]; exact hv) with h4 | ⟨y, hy, _⟩
    · exact h4
    · rw [List.takeWhile_cons, if_neg (by simp)] at hy; simp at hy
  refine ⟨fun y hy => h.lt y (List.mem_cons_of_mem _ hy), fun r hr => ?_, h.old, ?_⟩
  · obtain ⟨h1, h2, h3⟩ := h.near r hr
    refine ⟨h1, h2, fun v hv => ?_⟩
    rcases h3 v hv with h4 | ⟨y, hy, hvy⟩
    · exact .inl h4
    · rw [List.takeWhile_cons] at hy
      split at hy
      · rcases List.mem_cons.1 hy with rfl | hy
        · exact .inl (hdone v hvy)
        · exact .inr ⟨y, hy, hvy⟩
      · simp at hy
  · rw [← h.total, List.flatMap_cons, addNew_append, addNew_old acc _ hdone]
theorem VInv.var {x : Nat} {rest : List Nat} (V : VarsOf n c head g tv) (h : VInv n c g tv seen acc (x :: rest) Y) (hs : seen (c x) = 0) (hh : head (c x) = none) : VInv n c g tv (updN seen (c x) 1) (acc ++ [c x]) rest Y ∧ acc ++ [c x] <+: Y := by
  have hx := h.lt x List.mem_cons_self
  have hr := V.root x hx
  have htv : tv x = [c x] := by rw [← V.cls x hx]; exact V.var (c x) hr.1 hr.2 hh
  have hnot : c x ∉ acc := fun hm => h.old _ hm hs
  have htot : addNew (acc ++ [c x]) (rest.flatMap tv) = Y := by
    rw [← h.total, List.flatMap_cons, addNew_append, htv, addNew_one acc _ hnot]
  refine ⟨⟨fun y hy => h.lt y (List.mem_cons_of_mem _ hy), fun r hsr => ?_, fun v hv => ?_, htot⟩, by rw [← htot]; exact addNew_prefix _ _⟩
  · by_cases e : r = c x
    · subst e
      refine ⟨hr.1, hr.2, fun v hv => .inl ?_⟩
      rw [V.cls x hx, htv] at hv
      exact List.mem_append_right _ hv
    · rw [updN_other _ _ _ _ e] at hsr
      obtain ⟨h1, h2, h3⟩ := h.near r hsr
      refine ⟨h1, h2, fun v hv => ?_⟩
      rcases h3 v hv with h4 | ⟨y, hy, hvy⟩
      · exact .inl (List.mem_append_left _ h4)
      · rw [List.takeWhile_cons] at hy
        split at hy
        · rcases List.mem_cons.1 hy with rfl | hy
          · rw [htv] at hvy; exact .inl (List.mem_append_right _ hvy)
          · exact .inr ⟨y, hy, hvy⟩
        · simp at hy
  · rcases List.mem_append.1 hv with hv | hv
    · have := h.old v hv
      rw [updN_other _ _ _ _ (fun e => by rw [e] at this; exact this hs)]; exact this
    · simp at hv; subst hv; rw [updN_same]; decide
theorem takeWhile_all (p : Nat → Bool) (a b : List Nat) (h : ∀ x ∈ a, p x = true) : (a ++ b).takeWhile p = a ++ b.takeWhile p := by
  induction a with
  | nil => rfl
  | cons x a ih => rw [List.cons_append, List.takeWhile_cons, if_pos (h x List.mem_cons_self), ih (fun y hy => h y (List.mem_cons_of_mem _ hy)), List.cons_append]
theorem VInv.con {x : Nat} {rest al : List Nat} (V : VarsOf n c head g tv) (h : VInv n c g tv seen acc (x :: rest) Y) (hs : seen (c x) = 0) (hh : head (c x) = some al) : VInv n c g tv (updN seen (c x) 1) acc (al ++ rest) Y := by
  have hx := h.lt x List.mem_cons_self
  have hr := V.root x hx
  obtain ⟨htc, hfall⟩ := V.con (c x) al hr.1 hr.2 hh
  have htv : tv x = al.flatMap tv := by rw [← V.cls x hx]; exact htc
  refine ⟨fun y hy => ?_, fun r hsr => ?_, fun v hv => ?_, ?_⟩
  · rcases List.mem_append.1 hy with hy | hy
    · exact (hfall y hy).1
    · exact h.lt y (List.mem_cons_of_mem _ hy)
  · by_cases e : r = c x
    · subst e
      refine ⟨hr.1, hr.2, fun v hv => .inr ?_⟩
      rw [htc] at hv
      obtain ⟨y, hy, hvy⟩ := List.mem_flatMap.1 hv
      refine ⟨y, ?_, hvy⟩
      rw [takeWhile_all _ _ _ (fun z hz => decide_eq_true (hfall z hz).2)]
      exact List.mem_append_left _ hy
    · rw [updN_other _ _ _ _ e] at hsr
      obtain ⟨h1, h2, h3⟩ := h.near r hsr
      refine ⟨h1, h2, fun v hv => ?_⟩
      rcases h3 v hv with h4 | ⟨y, hy, hvy⟩
      · exact .inl h4
      · rw [List.takeWhile_cons] at hy
        split at hy
        · rename_i hg
          have hg' : g (c x) < g r := of_decide_eq_true hg
          have hall : ∀ z ∈ al, decide (g (c z) < g r) = true := fun z hz => decide_eq_true (Nat.lt_trans (hfall z hz).2 hg')
          refine .inr ?_
          rw [takeWhile_all _ _ _ hall]
          rcases List.mem_cons.1 hy with rfl | hy
          · rw [htv] at hvy
            obtain ⟨z, hz, hvz⟩ := List.mem_flatMap.1 hvy
            exact ⟨z, List.mem_append_left _ hz, hvz⟩
          · exact ⟨y, List.mem_append_right _ hy, hvy⟩
        · simp at hy
  · have := h.old v hv
    rw [updN_other _ _ _ _ (fun e => by rw [e] at this; exact this hs)]; exact this
  · rw [← h.total, List.flatMap_cons, List.flatMap_append, htv]
/-- The next node is begun. -/
theorem VInv.next {x : Nat} (h : VInv n c g tv seen acc [] acc) (hx : x < n) : VInv n c g tv seen acc [x] (addNew acc (tv x)) :=
  ⟨by simpa using hx, fun r hr => by
    obtain ⟨h1, h2, h3⟩ := h.near r hr
    exact ⟨h1, h2, fun v hv => (h3 v hv).imp id (fun ⟨y, hy, _⟩ => by simp at hy)⟩, h.old, by simp⟩
theorem VInv.done (h : VInv n c g tv seen acc [] Y) : Y = acc := by have := h.total; simpa [addNew] using this.symm
theorem VInv.start : VInv n c g tv (fun _ => 0) [] [] [] := ⟨by simp, fun r hr => absurd rfl hr, by simp, rfl⟩
end
end Go.Proofs.Ytafpbdmggnfdnaa

/- A map from int to int of one's own, inside a fence; slices.Backward over numbers as a contract of an iterator. -/
namespace Go.Proofs.Ytafpbdmggnfdnaa
open Go.RowKit Go.Shelf Go.Maps
set_option linter.unusedVariables false

theorem wpListIn_map_set {F : Fence} {nF : Nat} {w : World} {ops : Array Oper} {rest : List Oper} {o : Oper} {a : Act} {Q : Exit → Act → World → Prop} (hg : o.guard = none) (m x v : Operand) (hop : o.op = Op.mapUpdate 76 m x v) (b n : Nat) (f : Nat → Nat)
    (hm : a.eval m = .map (some b)) (h : MapIs w b n f) (hn : n < 1000000000) (key val : Nat) (hx : a.eval x = .int .i64 (key : Int)) (hv : a.eval v = .int .i64 (val : Int)) (hk : key < 4611686018427387904) (hvl : val < 4611686018427387904)
    (hK : ∀ w', MapIs w' b (n + 1) (updN f key val) → w.grownBy w' (some b) → wpListIn F nF Try.prog ops Q rest (a.put o.dst undef) w') : wpListIn F nF Try.prog ops Q (o :: rest) a w := by
  obtain ⟨D, hown, hat⟩ := h
  have hD : IsMap D := by obtain ⟨es, clock, _, _, _, e⟩ := hown; rw [e]; exact ⟨_, rfl⟩
  refine wpListIn_mapUpdate_own w hg m x v 76 hop 3 3 (int_keyed Try.underlying3) Try.underlying76 (plainElem Try.prog 3) b n D hm hown (by unfold maxLen; omega) _ _ (.int .i64 (key : Int)) hx hv (keyOf_int_mk Try.underlying3 (int_wf key hk)) (.lit (.int .i64 (val : Int))) [] (plainElem_int Try.underlying3 (int_wf val hvl)) (fun w' hown' hgrow => hK w' ⟨_, hown', fun k hkk => ?_⟩ hgrow)
  by_cases e : k = key
  · subst e
    rw [updN_same, atKey_put_same hD (by simp [WideAt.IsKeyLit])]
  · rw [updN_other _ _ _ _ e, atKey_put_other (by intro e'; injection e' with _ e'; exact e (by omega))]
    exact hat k hkk
theorem wpListIn_map_get {F : Fence} {nF : Nat} {w : World} {ops : Array Oper} {rest : List Oper} {o : Oper} {a : Act} {Q : Exit → Act → World → Prop} (hg : o.guard = none) (m x : Operand) (hop : o.op = Op.lookup 76 m x false) (b n : Nat) (f : Nat → Nat)
    (hm : a.eval m = .map (some b)) (h : MapIs w b n f) (key : Nat) (hx : a.eval x = .int .i64 (key : Int)) (hk : key < 4611686018427387904)
    (hK : wpListIn F nF Try.prog ops Q rest (a.put o.dst (.int .i64 (f key : Int))) w) : wpListIn F nF Try.prog ops Q (o :: rest) a w := by
  obtain ⟨D, hown, hat⟩ := h
  refine wpListIn_lookup_own_int w hg m x 76 hop 3 3 .i64 (int_keyed Try.underlying3) Try.underlying76 Try.underlying3 (zeroInt w) b n D hm hown _ (.int .i64 (key : Int)) hx (keyOf_int_mk Try.underlying3 (int_wf key hk)) (fun c hc _ => ?_)
  rw [hat key hk] at hc
  injection hc with hc
  injection hc with _ hc
  rw [← hc]; exact hK
attribute [local go_sem] Oper.semAt_some
set_option maxRecDepth 100000 in
theorem backInts_call (F : Fence) (n : Nat) (hf : F.fn 62) (hro : F.round = none) (A : Option Addr) (len cap : Nat) (w : World) :
    CallsIn F n Try.prog 62 #[.slice A len cap] w fun e w' => e = .returned (.func (.func 67) #[] #[.pointer (some ⟨w.heap.size, 0, none⟩)]) ∧ w' = w.alloc (.cells #[.slice A len cap] 30) := by
  refine callsIn_of_wp Try.func62 rfl hf ?_ hro
  simp only [Try.ntmps62, List.size_toArray, List.length_cons, List.length_nil, Nat.reduceAdd, Nat.reduceSub, Array.replicate_succ, Array.replicate_zero, List.push_toArray, List.append_toArray, List.nil_append, List.cons_append]
  gi_wp2
  go_ret
  exact ⟨rfl, rfl⟩
/-- slices.Backward over numbers. -/
theorem backInts_seq (n : Nat) (hn : 1 ≤ n) (Bs : Nat) (Fp : Nat → Prop) (A : Option Addr) (cap : Nat) (xs : List Nat) (hlen : xs.length ≤ 1000000) (w : World) (hB : w.cell? ⟨Bs, 0, none⟩ = some (.slice A xs.length cap)) (hBF : ¬ Fp Bs) (hc : Nats w A xs) (hcF : ∀ a, A = some a → ¬ Fp a.block) :
    SeqZ n Try.prog 67 #[.pointer (some ⟨Bs, 0, none⟩)] (fun x : Nat × Nat => #[.int .i64 (x.2 : Int), .int .i64 (x.1 : Int)]) Fp (xs.zipIdx).reverse w := by
  intro l J Jx W hb hJ hJx hY h0
  have hBl := World.block_lt_of_cell? w _ hB
  have cx : W.cell? ⟨Bs, 0, none⟩ = some (.slice A xs.length cap) := (hb.cell (p := ⟨Bs, 0, none⟩) hBl).trans hB
  have := backInts_in n hn l Bs Fp A cap xs hlen (fun pre M W1 => J pre M W1 ∧ (∀ b, M b → W.heap.size ≤ b) ∧ W.heap.size ≤ W1.heap.size) Jx W (fun pre M W1 h => h.2.1) ?_ cx hBF (Ints.below hc hb) hcF ⟨h0, fun _ hf => hf.elim, Nat.le_refl _⟩
  · refine this.mono ?_
    rintro e W' ⟨h1, (⟨M, h2, -⟩ | h2)⟩
    · exact ⟨h1, .inl ⟨M, h2⟩⟩
    · exact ⟨h1, .inr h2⟩
  · rintro pre x M W1 ⟨j1, j2, j3⟩ hpre
    obtain ⟨fn, tmps, assign, body, hy, hR⟩ := hY pre x M W1 j1 hpre
    refine ⟨fn, tmps, assign, body, hy, hR.mono ?_⟩
    rintro e W' (⟨rfl, ⟨M', i1, i2⟩, i3⟩ | h2)
    · exact .inl ⟨rfl, ⟨M', ⟨i1, fun b hb => by rcases i2 b hb with h3 | h3; exact j2 b h3; omega, Nat.le_trans j3 i3.size⟩, i2⟩, i3⟩
    · exact .inr h2
end Go.Proofs.Ytafpbdmggnfdnaa
