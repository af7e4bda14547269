/- Part 5 of the proof of UnifyMeets: what follows was kept as these texts: Seq, Marks, PlainTree, PlainCycle, PlainSearch, Round. -/
import Derived.Test.YtafpbdmggnfdnaaUnifyMeetsPt1
import Derived.Test.YtafpbdmggnfdnaaUnifyMeetsPt2
import Derived.Test.YtafpbdmggnfdnaaUnifyMeetsPt3
import Derived.Test.YtafpbdmggnfdnaaUnifyMeetsPt4
import Derived.RangeFuncCalls
import Derived.StillTailTactics
import Derived.OrdersIn
import Derived.TacticsIn
/- A range over a function that writes memory of its own between two rounds: what such a function promises, and the law for its caller. -/
namespace Go.Proofs.Ytafpbdmggnfdnaa
open Go.RowKit Go.Shelf
set_option linter.unusedVariables false

/-- The function hands over just Y, in this order, or a beginning of it where a round says no. Rounds change Fp and what is theirs alone (M: the blocks that rounds have made); the function changes only what it has made itself. -/
def SeqZ {α : Type} (n : Nat) (P : Program) (g : Nat) (lb : Array Value) (encs : α → Array Value) (Fp : Nat → Prop) (Y : List α) (w : World) : Prop :=
  ∀ (l : Nat) (J : List α → (Nat → Prop) → World → Prop) (Jx : (Nat → Prop) → World → Prop) (W : World), Below w.heap.size w W →
    (∀ pre M W1 W2, J pre M W1 → Only (fun b => W.heap.size ≤ b ∧ ¬ M b) W1 W2 → J pre M W2) →
    (∀ M W1 W2, Jx M W1 → Only (fun b => W.heap.size ≤ b ∧ ¬ M b) W1 W2 → Jx M W2) →
    (∀ pre x M W1, J pre M W1 → pre ++ [x] <+: Y → YieldAt Fence.wide (n - 1) P l (encs x) W1 fun e W' =>
      (e = .returned (.bool true) ∧ (∃ M', J (pre ++ [x]) M' W' ∧ ∀ b, M' b → M b ∨ (W1.heap.size ≤ b ∧ b < W'.heap.size)) ∧ Only (fun b => Fp b ∨ M b) W1 W') ∨ (e = .returned (.bool false) ∧ (∃ M', Jx M' W' ∧ ∀ b, M' b → M b ∨ (W1.heap.size ≤ b ∧ b < W'.heap.size)) ∧ Only (fun b => b < W.heap.size ∨ M b) W1 W')) →
    J [] (fun _ => False) W →
    CallsIn Fence.wide n P g (#[.func (.yield l) #[] #[]] ++ lb) W fun e W' => (∃ v, e = .returned v) ∧ ((∃ M, J Y M W') ∨ ∃ M, Jx M W')

/-- How the body of a round may be left. -/
def ZPost {α : Type} (Fp : Nat → Prop) (I : List α → (Nat → Prop) → World → Prop) (Ix : Code → (Nat → Prop) → World → Prop) (xs : List α) (M : Nat → Prop) (W : World) : Exit → Act → World → Prop
  | .normal, _, W' => (∃ M', I xs M' W' ∧ ∀ b, M' b → M b ∨ (W.heap.size ≤ b ∧ b < W'.heap.size)) ∧ Only (fun b => Fp b ∨ M b) W W'
  | .ret, _, W' => Only (fun b => Fp b ∨ M b) W W' ∧ ∃ M', Ix .ret M' W' ∧ ∀ b, M' b → M b ∨ (W.heap.size ≤ b ∧ b < W'.heap.size)
  | .exit id, _, W' => Only (fun b => Fp b ∨ M b) W W' ∧ ∃ M', Ix (.exit id) M' W' ∧ ∀ b, M' b → M b ∨ (W.heap.size ≤ b ∧ b < W'.heap.size)
  | .goto t, _, W' => Only (fun b => Fp b ∨ M b) W W' ∧ ∃ M', Ix (.goto t) M' W' ∧ ∀ b, M' b → M b ∨ (W.heap.size ≤ b ∧ b < W'.heap.size)
  | .panic _, _, _ => False
  | .outgrown, _, _ => False

theorem only_put {W : World} {l : Nat} (o : Obj) : Only (fun b => b = l) W (W.putObj l o) := (only_of_grown (grownBy_putObj' W l o)).mono fun b _ e => by injection e with e; exact e.symm

theorem wpZ_rangeFunc {α : Type} {P : Program} {n : Nat} {gop : Operand} {ps : Array Tmp} {assign body : Code} {Q : Exit → Act → World → Prop} {a : Act} {w : World} {gf : Nat} {lb : Array Value} (h1 : 1 ≤ n) (hg : a.eval gop = .func (.func gf) #[] lb) (eg : ∀ args w, (callFunc gf args).run P w = .ok (.enter gf args) w)
    {encs : α → Array Value} {Fp : Nat → Prop} {Y : List α} (hseq : SeqZ (n - 1) P gf lb encs Fp Y w) (hps : ∀ x, (encs x).size = ps.size) (hFp : ∀ b, Fp b → b < w.heap.size)
    (I : List α → (Nat → Prop) → World → Prop) (Ix : Code → (Nat → Prop) → World → Prop) (hI : ∀ pre M W1 W2, I pre M W1 → Only (fun b => w.heap.size ≤ b ∧ ¬ M b) W1 W2 → I pre M W2) (hIx : ∀ c M W1 W2, Ix c M W1 → Only (fun b => w.heap.size ≤ b ∧ ¬ M b) W1 W2 → Ix c M W2) (h0 : I [] (fun _ => False) w) (a₁ : α → Act)
    (hassign : ∀ (l : Nat) (x : α) (W : World) (K : Act → World → Prop), K (a₁ x) W → assign.wpIn (Fence.wide.inRound l) (n - 1 - 1) P (Exit.then K (fun _ _ _ => False)) { tmps := (ps.zip (encs x)).foldl (fun t (q, v) => t.setIfInBounds q v) a.tmps, defers := [] } W)
    (hbody : ∀ (l : Nat) (pre : List α) (x : α) (M : Nat → Prop) (W : World), pre ++ [x] <+: Y → w.heap.size + 2 ≤ W.heap.size → (∀ b, M b → w.heap.size + 2 ≤ b) → I pre M W → body.wpIn (Fence.wide.inRound l) (n - 1 - 1) P (ZPost Fp I Ix (pre ++ [x]) M W) (a₁ x) W)
    (hdone : ∀ (M : Nat → Prop) (W : World), w.heap.size + 2 ≤ W.heap.size → (∀ b, M b → w.heap.size + 2 ≤ b) → I Y M W → W.heap[w.heap.size]? = some (.deferred (some [])) → Q .normal { a with defers := { target := .collected w.heap.size, args := #[] } :: a.defers } W)
    (hstop : ∀ (c : Code) (M : Nat → Prop) (W : World), w.heap.size + 2 ≤ W.heap.size → (∀ b, M b → w.heap.size + 2 ≤ b) → Ix c M W → W.heap[w.heap.size]? = some (.deferred (some [])) → c.wpIn Fence.wide n P Q { a with defers := { target := .collected w.heap.size, args := #[] } :: a.defers } W) :
    (Code.rangeFunc gop ps assign body).wpIn Fence.wide n P Q a w := by
  refine wpIn_rangeFunc ?_
  intro fn hfn
  obtain ⟨rc, hrc⟩ : ∃ rc : LoopState → Option Code → Loop, rc = fun st pe => { state := st, pending := pe, fn, tmps := a.tmps, params := ps, assign, body, defers := w.heap.size } := ⟨_, rfl⟩
  obtain ⟨W1, hW1⟩ : ∃ W1, (w.alloc (.deferred (some []))).alloc (.loop (rc .ready none)) = W1 := ⟨_, rfl⟩
  have hz1 : W1.heap.size = w.heap.size + 2 := by rw [← hW1]; simp
  have hL1 : W1.heap[w.heap.size + 1]? = some (.loop (rc .ready none)) := by
    rw [← hW1]; have := heap_alloc_new (w.alloc (.deferred (some []))) (.loop (rc .ready none)); rwa [World.size_alloc] at this
  have hK1 : W1.heap[w.heap.size]? = some (.deferred (some [])) := by
    rw [← hW1, Below.heap_alloc _ _ _ (by simp)]; exact heap_alloc_new w _
  have hb1 : Below w.heap.size w W1 := by rw [← hW1]; exact ((Below.refl _ w).alloc (Nat.le_refl _) _).alloc (by simp) _
  refine ⟨w.heap.size + 1, [{ target := .collected w.heap.size, args := #[] }], W1, { target := .fn (.func gf) lb, args := #[.func (.yield (w.heap.size + 1)) #[] #[]] }, W1, gf, #[.func (.yield (w.heap.size + 1)) #[] #[]] ++ lb, W1, ?_, ?_, fun _ _ => trivial, ?_, fun _ => h1, ?_⟩
  · rw [← hW1, hrc]; exact run_enterLoop_outer _ _ _ _ _
  · simp only [resolve, hg]
    simp [go_sem]
  · simp [invoke, go_sem, eg]
  · have hI1 : I [] (fun _ => False) W1 := hI _ _ _ _ h0 (Only.of_below hb1 _)
    refine (hseq (w.heap.size + 1)
      (fun pre M W => I pre M W ∧ W.heap[w.heap.size + 1]? = some (.loop (rc .ready none)) ∧ W.heap[w.heap.size]? = some (.deferred (some [])) ∧ (∀ b, M b → w.heap.size + 2 ≤ b))
      (fun M W => ∃ c, Ix c M W ∧ W.heap[w.heap.size + 1]? = some (.loop (rc .done (some c))) ∧ W.heap[w.heap.size]? = some (.deferred (some [])) ∧ (∀ b, M b → w.heap.size + 2 ≤ b))
      W1 hb1 ?_ ?_ ?_ ⟨hI1, hL1, hK1, fun _ hf => hf.elim⟩).mono ?_
    · rintro pre M Wa Wb ⟨j1, j2, j3, j4⟩ ho
      have hla : w.heap.size + 1 < Wa.heap.size := (Array.getElem?_eq_some_iff.1 j2).1
      exact ⟨hI _ _ _ _ j1 (ho.mono fun b _ hb => ⟨by omega, hb.2⟩), (ho.block _ hla (fun hb => by omega)).trans j2, (ho.block _ (by omega) (fun hb => by omega)).trans j3, j4⟩
    · rintro M Wa Wb ⟨c, j1, j2, j3, j4⟩ ho
      have hla : w.heap.size + 1 < Wa.heap.size := (Array.getElem?_eq_some_iff.1 j2).1
      exact ⟨c, hIx _ _ _ _ j1 (ho.mono fun b _ hb => ⟨by omega, hb.2⟩), (ho.block _ hla (fun hb => by omega)).trans j2, (ho.block _ (by omega) (fun hb => by omega)).trans j3, j4⟩
    · rintro pre x M W ⟨j1, j2, j3, j4⟩ hpre
      have hlt : w.heap.size + 1 < W.heap.size := (Array.getElem?_eq_some_iff.1 j2).1
      have hy := run_yield (P := P) (args := encs x) j2 (by rw [hrc]; exact hps x)
      rw [hrc] at hy
      have hnf : ¬ (Fp (w.heap.size + 1) ∨ M (w.heap.size + 1)) := by
        rintro (hf | hf)
        · have := hFp _ hf; omega
        · have := j4 _ hf; omega
      have hnf0 : ¬ (Fp w.heap.size ∨ M w.heap.size) := by
        rintro (hf | hf)
        · have := hFp _ hf; omega
        · have := j4 _ hf; omega
      refine ⟨fn, _, assign, body, hy, roundIn_of_wpIn trivial (hassign _ x W _ ?_)⟩
      clear hy
      refine ⟨_, run_beginRound j2 (by rw [hrc]), ?_⟩
      obtain ⟨W2, hW2⟩ : ∃ W2, W.putObj (w.heap.size + 1) (.loop { rc .ready none with state := .busy }) = W2 := ⟨_, rfl⟩
      have l2 : W2.heap[w.heap.size + 1]? = some (.loop { rc .ready none with state := .busy }) := by rw [← hW2]; exact World.putObj_heap_same hlt
      have o2 : Only (fun b => b = w.heap.size + 1) W W2 := by rw [← hW2]; exact only_put _
      have k2 : W2.heap[w.heap.size]? = some (.deferred (some [])) := (o2.block _ (by omega) (by omega)).trans j3
      rw [hW2]
      have i2 : I pre M W2 := hI _ _ _ _ j1 (o2.mono fun b _ e => ⟨by omega, fun hm => by have := j4 _ hm; omega⟩)
      refine wpIn_mono (hbody _ pre x M W2 hpre (by have := o2.size; omega) j4 i2) ?_
      have fin : ∀ (jump : Option Code) (W3 : World), Only (fun b => Fp b ∨ M b) W2 W3 → (Instr.endRound (w.heap.size + 1) jump).run P W3 = .ok (.bool jump.isNone) (W3.putObj (w.heap.size + 1) (.loop (rc (if jump.isNone then .ready else .done) jump))) ∧
          (W3.putObj (w.heap.size + 1) (.loop (rc (if jump.isNone then .ready else .done) jump))).heap[w.heap.size + 1]? = some (.loop (rc (if jump.isNone then .ready else .done) jump)) ∧
          (W3.putObj (w.heap.size + 1) (.loop (rc (if jump.isNone then .ready else .done) jump))).heap[w.heap.size]? = some (.deferred (some [])) := by
        intro jump W3 o3
        have hs2 := o2.size
        have l3 := (o3.block _ (by omega) hnf).trans l2
        have hr := run_endRound (P := P) jump l3
        rw [hrc] at hr ⊢
        exact ⟨hr, World.putObj_heap_same (Array.getElem?_eq_some_iff.1 l3).1, ((only_put _).block _ (by have := o3.size; omega) (by omega)).trans ((o3.block _ (by omega) hnf0).trans k2)⟩
      have fin2 : ∀ (cc : Code) (W3 : World), Only (fun b => Fp b ∨ M b) W2 W3 → (∃ M', Ix cc M' W3 ∧ ∀ b, M' b → M b ∨ (W2.heap.size ≤ b ∧ b < W3.heap.size)) →
          (∃ M', (∃ c, Ix c M' (W3.putObj (w.heap.size + 1) (.loop (rc .done (some cc)))) ∧ (W3.putObj (w.heap.size + 1) (.loop (rc .done (some cc)))).heap[w.heap.size + 1]? = some (.loop (rc .done (some c))) ∧ (W3.putObj (w.heap.size + 1) (.loop (rc .done (some cc)))).heap[w.heap.size]? = some (.deferred (some [])) ∧ (∀ b, M' b → w.heap.size + 2 ≤ b)) ∧ ∀ b, M' b → M b ∨ (W.heap.size ≤ b ∧ b < (W3.putObj (w.heap.size + 1) (.loop (rc .done (some cc)))).heap.size)) ∧ Only (fun b => b < W1.heap.size ∨ M b) W (W3.putObj (w.heap.size + 1) (.loop (rc .done (some cc)))) := by
        rintro cc W3 o3 ⟨M', i3, hM'⟩
        obtain ⟨-, l4, k4⟩ := fin (some cc) W3 o3
        have hs2 := o2.size
        have o4 : Only (fun b => b = w.heap.size + 1) W3 (W3.putObj (w.heap.size + 1) (.loop (rc .done (some cc)))) := only_put _
        have hM2 : ∀ b, M' b → w.heap.size + 2 ≤ b := fun b hb => by rcases hM' b hb with h2 | h2; exact j4 b h2; omega
        refine ⟨⟨M', ⟨cc, hIx _ _ _ _ i3 (o4.mono fun b _ e => ⟨by omega, fun hm => by have := hM2 _ hm; omega⟩), l4, k4, hM2⟩, fun b hb => (hM' b hb).imp id fun h2 => ⟨by omega, Nat.lt_of_lt_of_le h2.2 o4.size⟩⟩, ?_⟩
        have oA : Only (fun b => b < W1.heap.size ∨ M b) W W2 := o2.mono fun b _ e => .inl (by omega)
        have oB : Only (fun b => b < W1.heap.size ∨ M b) W W3 := oA.then_ o3 (fun b hb _ => hb.imp (fun h => by have := hFp _ h; omega) id)
        exact oB.then_ o4 (fun b hb _ => .inl (by omega))
      rintro e a3 W3 hp
      cases e with
      | normal =>
        obtain ⟨⟨M', i3, hM'⟩, o3⟩ := hp
        obtain ⟨hr, l4, k4⟩ := fin none W3 o3
        have hs2 := o2.size
        have o4 : Only (fun b => b = w.heap.size + 1) W3 (W3.putObj (w.heap.size + 1) (.loop (rc .ready none))) := only_put _
        have hM2 : ∀ b, M' b → w.heap.size + 2 ≤ b := fun b hb => by rcases hM' b hb with h2 | h2; exact j4 b h2; omega
        refine ⟨_, _, hr, .inl ⟨rfl, ⟨M', ⟨hI _ _ _ _ i3 (o4.mono fun b _ e => ⟨by omega, fun hm => by have := hM2 _ hm; omega⟩), l4, k4, hM2⟩, fun b hb => (hM' b hb).imp id fun h2 => ⟨by omega, Nat.lt_of_lt_of_le h2.2 o4.size⟩⟩, ?_⟩⟩
        have oA : Only (fun b => b = w.heap.size + 1 ∨ Fp b ∨ M b) W W2 := o2.mono fun _ _ e => .inl e
        have oB : Only (fun b => b = w.heap.size + 1 ∨ Fp b ∨ M b) W W3 := oA.then_ o3 (fun b hb _ => .inr hb)
        have hall : Only (fun b => b = w.heap.size + 1 ∨ Fp b ∨ M b) W (W3.putObj (w.heap.size + 1) (.loop (rc .ready none))) := oB.then_ o4 (fun b hb _ => .inl hb)
        refine ⟨hall.os, hall.tape, hall.output, hall.size, fun b hb hn => ?_⟩
        by_cases e : b = w.heap.size + 1
        · rw [e]; exact l4.trans j2.symm
        · exact hall.block b hb (fun h2 => h2.elim e hn)
      | ret =>
        obtain ⟨o3, i3⟩ := hp
        obtain ⟨hr, l4, k4⟩ := fin (some .ret) W3 o3
        exact ⟨_, _, hr, .inr ⟨rfl, fin2 .ret W3 o3 i3⟩⟩
      | exit id =>
        obtain ⟨o3, i3⟩ := hp
        obtain ⟨hr, l4, k4⟩ := fin (some (.exit id)) W3 o3
        exact ⟨_, _, hr, .inr ⟨rfl, fin2 (.exit id) W3 o3 i3⟩⟩
      | goto t =>
        obtain ⟨o3, i3⟩ := hp
        obtain ⟨hr, l4, k4⟩ := fin (some (.goto t)) W3 o3
        exact ⟨_, _, hr, .inr ⟨rfl, fin2 (.goto t) W3 o3 i3⟩⟩
      | panic ch => exact hp.elim
      | outgrown => exact hp.elim
    · rintro e W2 ⟨⟨v, rfl⟩, (⟨M, j1, j2, j3, j4⟩ | ⟨M, c, i2, l2, k2, m2⟩)⟩
      · have hlt : w.heap.size + 1 < W2.heap.size := (Array.getElem?_eq_some_iff.1 j2).1
        have o3 : ∀ o, Only (fun b => b = w.heap.size + 1) W2 (W2.putObj (w.heap.size + 1) o) := fun o => only_put o
        refine ⟨none, _, by have := run_endLoop (P := P) j2 (by rw [hrc]; simp); rw [hrc] at this; exact this, hdone M _ (by simp; omega) j4 (hI _ _ _ _ j1 ((only_put _).mono fun b _ e => ⟨by omega, fun hm => by have := j4 _ hm; omega⟩)) (((only_put _).block _ (by omega) (by omega)).trans j3)⟩
      · have hlt : w.heap.size + 1 < W2.heap.size := (Array.getElem?_eq_some_iff.1 l2).1
        refine ⟨some c, _, by have := run_endLoop (P := P) l2 (by rw [hrc]; simp); rw [hrc] at this; exact this, hstop c M _ (by simp; omega) m2 (hIx _ _ _ _ i2 ((only_put _).mono fun b _ e => ⟨by omega, fun hm => by have := m2 _ hm; omega⟩)) (((only_put _).block _ (by omega) (by omega)).trans k2)⟩

attribute [local go_sem] Oper.semAt_some
set_option maxRecDepth 100000 in
set_option maxHeartbeats 2000000 in
/-- slices.Backward over a slice of numbers. -/
theorem backInts_in (n : Nat) (hn : 1 ≤ n) (l Bs : Nat) (Fp : Nat → Prop) (A : Option Addr) (cap : Nat) (xs : List Nat) (hlen : xs.length ≤ 1000000) (J : List (Nat × Nat) → (Nat → Prop) → World → Prop) (Jx : (Nat → Prop) → World → Prop) (W : World)
    (hM : ∀ pre M W1, J pre M W1 → ∀ b, M b → W.heap.size ≤ b)
    (hY : ∀ pre x M W1, J pre M W1 → pre ++ [x] <+: (xs.zipIdx).reverse → YieldAt Fence.wide (n - 1) Try.prog l #[.int .i64 (x.2 : Int), .int .i64 (x.1 : Int)] W1 fun e W' =>
      (e = .returned (.bool true) ∧ (∃ M', J (pre ++ [x]) M' W' ∧ ∀ b, M' b → M b ∨ (W1.heap.size ≤ b ∧ b < W'.heap.size)) ∧ Only (fun b => Fp b ∨ M b) W1 W') ∨ (e = .returned (.bool false) ∧ (∃ M', Jx M' W' ∧ ∀ b, M' b → M b ∨ (W1.heap.size ≤ b ∧ b < W'.heap.size)) ∧ Only (fun b => b < W.heap.size ∨ M b) W1 W'))
    (hB : W.cell? ⟨Bs, 0, none⟩ = some (.slice A xs.length cap)) (hBF : ¬ Fp Bs) (hc : Nats W A xs) (hcF : ∀ a, A = some a → ¬ Fp a.block) (h0 : J [] (fun _ => False) W) :
    CallsIn Fence.wide n Try.prog 67 #[.func (.yield l) #[] #[], .pointer (some ⟨Bs, 0, none⟩)] W fun e W' => (∃ v, e = .returned v) ∧ ((∃ M, J (xs.zipIdx).reverse M W') ∨ ∃ M, Jx M W') := by
  refine callsIn_of_wp Try.func67 rfl trivial ?_ rfl
  simp only [Try.ntmps67, List.size_toArray, List.length_cons, List.length_nil, Nat.reduceAdd, Nat.reduceSub, Array.replicate_succ, Array.replicate_zero, List.push_toArray, List.append_toArray, List.nil_append, List.cons_append]
  have hBl := World.block_lt_of_cell? W _ hB
  gi_wp2
  gi_loopw [3] (fun i wr => ∃ (m : Nat) (M : Nat → Prop), m ≤ xs.length ∧ i = .int .i64 ((m : Int) - 1) ∧ J (xs.zipIdx.drop m).reverse M wr ∧ Only (fun b => Fp b ∨ W.heap.size ≤ b) W wr) (fun i _ => (intOf i + 1).toNat)
  case atStart => exact ⟨xs.length, fun _ => False, Nat.le_refl _, rfl, by rw [List.drop_of_length_le (by simp)]; exact h0, Only.refl _ _⟩
  case round =>
    obtain ⟨m, M, hm, rfl, hJs, ho⟩ := hrel
    rcases m with _ | m
    · rw [show ((0 : Nat) : Int) - 1 = -1 by omega]
      gi_wp2
      go_end0
      exact ⟨⟨_, rfl⟩, .inl ⟨M, by simpa using hJs⟩⟩
    · rw [show ((m + 1 : Nat) : Int) - 1 = (m : Int) by omega]
      obtain ⟨b, off, rfl, hb, d0⟩ := hc.at_ m (by simp [cast]; omega)
      simp only [cast, List.getElem_map] at d0
      have hnb : ¬ (Fp b ∨ W.heap.size ≤ b) := by
        rintro (h1 | h1)
        · exact hcF _ rfl h1
        · omega
      have cx : wr.cell? ⟨Bs, 0, none⟩ = some (.slice (some ⟨b, off, none⟩) xs.length cap) := (ho.cell (p := ⟨Bs, 0, none⟩) hBl (by rintro (h1 | h1); exact hBF h1; simp only at h1 hBl; omega)).trans hB
      have e0 := (ho.cell (p := ⟨b, off + m, none⟩) hb hnb).trans d0
      have hz : xs.zipIdx.drop m = (xs[m]'(by omega), m) :: xs.zipIdx.drop (m + 1) := by
        rw [List.drop_eq_getElem_cons (by simp; omega)]; simp
      have hrev : (xs.zipIdx.drop m).reverse = (xs.zipIdx.drop (m + 1)).reverse ++ [(xs[m]'(by omega), m)] := by rw [hz, List.reverse_cons]
      have hpre : (xs.zipIdx.drop (m + 1)).reverse ++ [(xs[m]'(by omega), m)] <+: xs.zipIdx.reverse := by
        rw [← hrev]
        refine ⟨(xs.zipIdx.take m).reverse, ?_⟩
        rw [← List.reverse_append, List.take_append_drop]
      obtain ⟨fn, tmps, assign, body, hy, hR⟩ := hY _ _ M wr hJs hpre
      have hMM := hM _ _ _ hJs
      obtain ⟨x, hx⟩ : ∃ x, xs[m]'(by omega) = x := ⟨_, rfl⟩
      rw [hx] at e0 hy hR
      simp only at hy
      have HD : Hid ((xs.zipIdx.drop m).reverse = (xs.zipIdx.drop (m + 1)).reverse ++ [(x, m)]) := hide (by rw [hrev, hx])
      clear hx d0 hz hrev hpre
      gi_wp2
      refine hR.mono ?_
      rintro e W3 (⟨rfl, ⟨M', hJ3, hM'⟩, hk3⟩ | ⟨rfl, ⟨M', hJx3, -⟩, -⟩)
      · gi_wp2
        go_roundw
        case rel => exact ⟨m, M', by omega, rfl, by rw [HD.out]; exact hJ3, ho.trans (hk3.mono fun b _ hb => hb.imp id (hMM b))⟩
        case measure => simp [intOf]
      · gi_wp2
        refine bodyPost_ret (results_none rfl _ _ _) rfl ?_
        exact ⟨⟨_, rfl⟩, .inr ⟨M', hJx3⟩⟩
end Go.Proofs.Ytafpbdmggnfdnaa

/- A function in whose loop a range over a function stands: each such range leaves a mark; at the end all are taken. -/
namespace Go.Proofs.Ytafpbdmggnfdnaa
open Go.RowKit Go.Shelf
set_option linter.unusedVariables false

def marks (Ds : List Nat) : List Deferred := Ds.map fun D => { target := .collected D, args := #[] }
/-- The marks' blocks: each holds no call; they are apart. -/
structure Marked (Ds : List Nat) (W : World) : Prop where
  nodup : Ds.Nodup
  at_ : ∀ D ∈ Ds, W.heap[D]? = some (.deferred (some []))
theorem Marked.keep {Ds : List Nat} {W W' : World} (h : Marked Ds W) (hk : ∀ D ∈ Ds, W'.heap[D]? = W.heap[D]?) : Marked Ds W' := ⟨h.nodup, fun D hD => (hk D hD).trans (h.at_ D hD)⟩
theorem Marked.lt {Ds : List Nat} {W : World} (h : Marked Ds W) (D : Nat) (hD : D ∈ Ds) : D < W.heap.size := (Array.getElem?_eq_some_iff.1 (h.at_ D hD)).1
theorem Marked.cons {Ds : List Nat} {W : World} {D : Nat} (h : Marked Ds W) (hD : W.heap[D]? = some (.deferred (some []))) (hn : D ∉ Ds) : Marked (D :: Ds) W :=
  ⟨List.nodup_cons.2 ⟨hn, h.nodup⟩, fun E hE => by
    rcases List.mem_cons.1 hE with rfl | hE
    · exact hD
    · exact h.at_ E hE⟩
theorem leaves_marks {P : Program} {n : Nat} {fn : Func} {tmps : Array Value} {R : Ending → World → Prop} (hres : fn.results = #[]) (Ds : List Nat) : ∀ (W : World), Marked Ds W → (∀ W', Only (fun b => b ∈ Ds) W W' → ∀ v, R (.returned v) W') → LeavesInM Fence.wide n P fn tmps R (marks Ds) .returning W := by
  induction Ds with
  | nil =>
    intro W _ hR
    exact ⟨_, results_none hres _ _ _, hR W (Only.refl _ _) _⟩
  | cons D Ds ih =>
    intro W hm hR
    have hnd := List.nodup_cons.1 hm.nodup
    refine ⟨by simp, .inl ⟨D, _, rfl, run_takeDeferred (hm.at_ D List.mem_cons_self), ih _ ⟨hnd.2, fun E hE => ?_⟩ (fun W' ho v => hR W' ?_ v)⟩⟩
    · exact ((only_put (l := D) _).block E (hm.lt E (List.mem_cons_of_mem _ hE)) (by rintro rfl; exact hnd.1 hE)).trans (hm.at_ E (List.mem_cons_of_mem _ hE))
    · exact ((only_put (l := D) _).mono fun b _ e => by rw [e]; exact List.mem_cons_self).then_ ho (fun b hb _ => List.mem_cons_of_mem _ hb)
end Go.Proofs.Ytafpbdmggnfdnaa

/- Plain: what nodes stand for, as trees. A forest is a row of trees. -/
namespace Go.Proofs.Ytafpbdmggnfdnaa
set_option linter.unusedVariables false

inductive Fo where
  | nil : Fo
  | var (n : Nat) (rest : Fo) : Fo
  | con (kind : Int) (name : ByteArray) (args rest : Fo) : Fo
def Fo.cnt : Fo → Nat
  | .nil => 0
  | .var _ r => 1 + r.cnt
  | .con _ _ a r => 1 + a.cnt + r.cnt
def Fo.len : Fo → Nat
  | .nil => 0
  | .var _ r => r.len + 1
  | .con _ _ _ r => r.len + 1
def Fo.app : Fo → Fo → Fo
  | .nil, b => b
  | .var n r, b => .var n (r.app b)
  | .con k m a r, b => .con k m a (r.app b)
/-- The variables, in the order in which they stand there from the left. -/
def Fo.vars : Fo → List Nat
  | .nil => []
  | .var n r => n :: r.vars
  | .con _ _ a r => a.vars ++ r.vars
def Fo.mapv (f : Nat → Nat) : Fo → Fo
  | .nil => .nil
  | .var n r => .var (f n) (r.mapv f)
  | .con k m a r => .con k m (a.mapv f) (r.mapv f)
theorem Fo.cnt_app (a b : Fo) : (a.app b).cnt = a.cnt + b.cnt := by
  induction a with
  | nil => simp [Fo.app, Fo.cnt]
  | var n r ih => simp only [Fo.app, Fo.cnt, ih]; omega
  | con k m x r _ ih => simp only [Fo.app, Fo.cnt, ih]; omega
theorem Fo.vars_app (a b : Fo) : (a.app b).vars = a.vars ++ b.vars := by
  induction a with
  | nil => rfl
  | var n r ih => simp [Fo.app, Fo.vars, ih]
  | con k m x r _ ih => simp [Fo.app, Fo.vars, ih]
theorem Fo.mapv_app (f : Nat → Nat) (a b : Fo) : (a.app b).mapv f = (a.mapv f).app (b.mapv f) := by
  induction a with
  | nil => rfl
  | var n r ih => simp [Fo.app, Fo.mapv, ih]
  | con k m x r _ ih => simp [Fo.app, Fo.mapv, ih]
theorem Fo.len_le (a : Fo) : a.len ≤ a.cnt := by
  induction a with
  | nil => simp [Fo.len]
  | var n r ih => simp only [Fo.len, Fo.cnt]; omega
  | con k m x r _ ih => simp only [Fo.len, Fo.cnt]; omega
theorem Fo.vars_mapv (f : Nat → Nat) (a : Fo) : (a.mapv f).vars = a.vars.map f := by
  induction a with
  | nil => rfl
  | var n r ih => simp [Fo.mapv, Fo.vars, ih]
  | con k m x r ihx ih => simp [Fo.mapv, Fo.vars, ihx, ih]
theorem Fo.cnt_mapv (f : Nat → Nat) (a : Fo) : (a.mapv f).cnt = a.cnt := by
  induction a with
  | nil => rfl
  | var n r ih => simp [Fo.mapv, Fo.cnt, ih]
  | con k m x r ihx ih => simp [Fo.mapv, Fo.cnt, ihx, ih]
theorem Fo.mapv_mapv (f g : Nat → Nat) (a : Fo) : (a.mapv f).mapv g = a.mapv (fun x => g (f x)) := by
  induction a with
  | nil => rfl
  | var n r ih => simp [Fo.mapv, ih]
  | con k m x r ihx ih => simp [Fo.mapv, ihx, ih]
theorem Fo.mapv_congr {f g : Nat → Nat} (a : Fo) (h : ∀ v ∈ a.vars, f v = g v) : a.mapv f = a.mapv g := by
  induction a with
  | nil => rfl
  | var n r ih => simp only [Fo.mapv]; rw [h n (by simp [Fo.vars]), ih (fun v hv => h v (by simp [Fo.vars, hv]))]
  | con k m x r ihx ih => simp only [Fo.mapv]; rw [ihx (fun v hv => h v (by simp [Fo.vars, hv])), ih (fun v hv => h v (by simp [Fo.vars, hv]))]

/-- These nodes stand for this forest. -/
inductive Stands (N : List Nd) (c F : Nat → Nat) : List Nat → Fo → Prop where
  | nil : Stands N c F [] .nil
  | var {i : Nat} {is : List Nat} {T : Fo} {p : Nd} (hp : N[F (c i)]? = some p) (hk : p.kind = 1) (hr : Stands N c F is T) : Stands N c F (i :: is) (.var (c i) T)
  | con {i : Nat} {is : List Nat} {A T : Fo} {p : Nd} (hp : N[F (c i)]? = some p) (hk : p.kind ≠ 1) (ha : Stands N c F p.args A) (hr : Stands N c F is T) : Stands N c F (i :: is) (.con p.kind p.name A T)

section
variable {N : List Nd} {c F : Nat → Nat}
theorem Stands.len {is : List Nat} {T : Fo} (h : Stands N c F is T) : T.len = is.length := by
  induction h with
  | nil => rfl
  | var _ _ _ ih => simp [Fo.len, ih]
  | con _ _ _ _ _ ih => simp [Fo.len, ih]
theorem Stands.app {is js : List Nat} {T U : Fo} (h : Stands N c F is T) (k : Stands N c F js U) : Stands N c F (is ++ js) (T.app U) := by
  induction h with
  | nil => exact k
  | var hp hk _ ih => exact .var hp hk ih
  | con hp hk ha _ _ ih => exact .con hp hk ha ih
theorem Stands.split {is js : List Nat} {T : Fo} (h : Stands N c F (is ++ js) T) : ∃ A B, T = A.app B ∧ Stands N c F is A ∧ Stands N c F js B := by
  induction is generalizing T with
  | nil => exact ⟨.nil, T, rfl, .nil, h⟩
  | cons i is ih =>
    cases h with
    | var hp hk hr => obtain ⟨A, B, rfl, h1, h2⟩ := ih hr; exact ⟨.var _ A, B, rfl, .var hp hk h1, h2⟩
    | con hp hk ha hr => obtain ⟨A, B, rfl, h1, h2⟩ := ih hr; exact ⟨.con _ _ _ A, B, rfl, .con hp hk ha h1, h2⟩
theorem Stands.unique {is : List Nat} {T U : Fo} (h : Stands N c F is T) (k : Stands N c F is U) : T = U := by
  induction h generalizing U with
  | nil => cases k; rfl
  | var hp hk hr ih =>
    cases k with
    | var hp' hk' hr' => rw [ih hr']
    | con hp' hk' ha' hr' => rw [hp] at hp'; injection hp' with e; subst e; exact absurd hk hk'
  | con hp hk ha hr iha ih =>
    cases k with
    | var hp' hk' hr' => rw [hp] at hp'; injection hp' with e; subst e; exact absurd hk' hk
    | con hp' hk' ha' hr' => rw [hp] at hp'; injection hp' with e; subst e; rw [iha ha', ih hr']
theorem Stands.exists (hw : Wf N) (hc : ∀ i, i < N.length → c i < N.length) (hF : ∀ i, i < N.length → Form N c (c i) (F (c i))) (hac : Acyc N c) : ∀ (is : List Nat), (∀ i ∈ is, i < N.length) → ∃ T, Stands N c F is T := by
  obtain ⟨g, g1, g2⟩ := hac
  have key : ∀ (k : Nat) (is : List Nat), (∀ i ∈ is, i < N.length ∧ g i < k) → ∃ T, Stands N c F is T := by
    intro k
    induction k with
    | zero =>
      intro is h
      rcases is with _ | ⟨i, is⟩
      · exact ⟨.nil, .nil⟩
      · have := (h i List.mem_cons_self).2; omega
    | succ k ih =>
      intro is
      induction is with
      | nil => intro _; exact ⟨.nil, .nil⟩
      | cons i is ihs =>
        intro h
        obtain ⟨T, hT⟩ := ihs (fun j hj => h j (List.mem_cons_of_mem _ hj))
        have hi := h i List.mem_cons_self
        have Fi := hF i hi.1
        obtain ⟨p, hp⟩ : ∃ p, N[F (c i)]? = some p := ⟨_, List.getElem?_eq_getElem Fi.lt⟩
        by_cases hk : p.kind = 1
        · exact ⟨_, .var hp hk hT⟩
        · obtain ⟨A, hA⟩ := ih p.args (fun x hx => by
            have h1 := (hw _ p hp).1 x hx
            have h2 := g2 _ p hp x hx
            have h3 := g1 (F (c i)) i Fi.lt hi.1 Fi.cls
            have := Fi.lt
            exact ⟨by omega, by omega⟩)
          exact ⟨_, .con hp hk hA hT⟩
  intro is h
  obtain ⟨M, hM⟩ : ∃ M, ∀ i ∈ is, g i < M := by
    induction is with
    | nil => exact ⟨0, by simp⟩
    | cons i is ih =>
      obtain ⟨M, hM⟩ := ih (fun j hj => h j (List.mem_cons_of_mem _ hj))
      refine ⟨max M (g i + 1), fun j hj => ?_⟩
      rcases List.mem_cons.1 hj with rfl | hj
      · omega
      · have := hM j hj; omega
  exact key M is (fun i hi => ⟨h i hi, hM i hi⟩)
/-- Every variable of the forest is a root. -/
theorem Stands.roots (hw : Wf N) (hc : ∀ i, i < N.length → c i < N.length ∧ c (c i) = c i) {is : List Nat} {T : Fo} (h : Stands N c F is T) (hi : ∀ i ∈ is, i < N.length) : ∀ v ∈ T.vars, v < N.length ∧ c v = v := by
  induction h with
  | nil => intro v hv; simp [Fo.vars] at hv
  | @var i is T p hp hk hr ih =>
    intro v hv
    simp [Fo.vars] at hv
    rcases hv with rfl | hv
    · exact hc i (hi i List.mem_cons_self)
    · exact ih (fun j hj => hi j (List.mem_cons_of_mem _ hj)) v hv
  | @con i is A T p hp hk ha hr iha ih =>
    intro v hv
    simp [Fo.vars] at hv
    rcases hv with hv | hv
    · refine iha (fun x hx => ?_) v hv
      have h1 := (hw _ p hp).1 x hx
      have h2 := (List.getElem?_eq_some_iff.1 hp).1
      omega
    · exact ih (fun j hj => hi j (List.mem_cons_of_mem _ hj)) v hv
end
/-- Two stores of the same nodes, with the same nodes alike: the same trees, but for the variables' names. -/
theorem Stands.same {N : List Nd} {c F c' F' : Nat → Nat} (hw : Wf N) (hcl : Closed N c) (h12 : Resp N.length c c') (h21 : Resp N.length c' c) (hc : ∀ i, i < N.length → c i < N.length ∧ c (c i) = c i) (hF : ∀ i, i < N.length → Form N c (c i) (F (c i))) (hF' : ∀ i, i < N.length → Form N c' (c' i) (F' (c' i)))
    {is : List Nat} {T : Fo} (h : Stands N c F is T) : ∀ (js : List Nat) (U : Fo), (∀ i ∈ is, i < N.length) → (∀ j ∈ js, j < N.length) → is.length = js.length → (∀ (k i j : Nat), is[k]? = some i → js[k]? = some j → c i = c j) → Stands N c' F' js U → U = T.mapv c' := by
  have args_lt : ∀ {i : Nat} {p : Nd}, N[i]? = some p → ∀ x ∈ p.args, x < N.length := by
    intro i p hp x hx
    have h1 := (hw _ p hp).1 x hx
    have h2 := (List.getElem?_eq_some_iff.1 hp).1
    omega
  -- heads of one class
  have heads : ∀ (i j : Nat) (p q : Nd), i < N.length → j < N.length → c i = c j → N[F (c i)]? = some p → N[F' (c' j)]? = some q → (p.kind = 1 ↔ q.kind = 1) ∧ (p.kind ≠ 1 → Heads p q ∧ ∀ (k x y : Nat), p.args[k]? = some x → q.args[k]? = some y → c x = c y) := by
    intro i j p q hi hj hij hp hq
    have Fi := hF i hi
    have Fj := hF' j hj
    have hcc : c (F' (c' j)) = c i := by rw [h21 (F' (c' j)) j Fj.lt hj Fj.cls, hij]
    have hcc' : c' (F (c i)) = c' j := by rw [h12 (F (c i)) i Fi.lt hi Fi.cls, h12 i j hi hj hij]
    have hpq : p.kind ≠ 1 → q.kind ≠ 1 := fun hk => Fj.head (F (c i)) p q hp hcc' hk hq
    have hqp : q.kind ≠ 1 → p.kind ≠ 1 := fun hk => Fi.head (F' (c' j)) q p hq hcc hk hp
    refine ⟨⟨fun e => ?_, fun e => ?_⟩, fun hk => ?_⟩
    · rcases Decidable.em (q.kind = 1) with h1 | h1
      · exact h1
      · exact absurd e (hqp h1)
    · rcases Decidable.em (p.kind = 1) with h1 | h1
      · exact h1
      · exact absurd e (hpq h1)
    · exact hcl (F (c i)) (F' (c' j)) p q hp hq (Fi.cls.trans hcc.symm) hk (hpq hk)
  induction h with
  | nil =>
    intro js U _ _ hl _ hU
    rcases js with _ | ⟨j, js⟩
    · cases hU; rfl
    · simp at hl
  | @var i is T p hp hk hr ih =>
    intro js U hi hj hl hm hU
    rcases js with _ | ⟨j, js⟩
    · simp at hl
    · have hil := hi i List.mem_cons_self
      have hjl := hj j List.mem_cons_self
      have hij := hm 0 i j rfl rfl
      have hrest := fun U' hU' => ih js U' (fun x hx => hi x (List.mem_cons_of_mem _ hx)) (fun x hx => hj x (List.mem_cons_of_mem _ hx)) (by simpa using hl) (fun k x y hx hy => hm (k + 1) x y (by simpa using hx) (by simpa using hy)) hU'
      cases hU with
      | @var _ _ U' q hq hkq hrU =>
        rw [hrest U' hrU]
        simp only [Fo.mapv]
        congr 1
        have e1 : c' (c i) = c' i := h12 (c i) i (hc i hil).1 hil (hc i hil).2
        rw [e1]; exact (h12 i j hil hjl hij).symm
      | @con _ _ _ _ q hq hkq _ _ => exact absurd ((heads i j p q hil hjl hij hp hq).1.1 hk) hkq
  | @con i is A T p hp hk ha hr iha ih =>
    intro js U hi hj hl hm hU
    rcases js with _ | ⟨j, js⟩
    · simp at hl
    · have hil := hi i List.mem_cons_self
      have hjl := hj j List.mem_cons_self
      have hij := hm 0 i j rfl rfl
      have hrest := fun U' hU' => ih js U' (fun x hx => hi x (List.mem_cons_of_mem _ hx)) (fun x hx => hj x (List.mem_cons_of_mem _ hx)) (by simpa using hl) (fun k x y hx hy => hm (k + 1) x y (by simpa using hx) (by simpa using hy)) hU'
      cases hU with
      | @var _ _ U' q hq hkq hrU => exact absurd ((heads i j p q hil hjl hij hp hq).1.2 hkq) hk
      | @con _ _ A' U' q hq hkq haU hrU =>
        obtain ⟨hh, hargs⟩ := (heads i j p q hil hjl hij hp hq).2 hk
        rw [hrest U' hrU, iha q.args A' (args_lt hp) (args_lt hq) hh.2.2 (fun k x y hx hy => hargs k x y hx hy) haU]
        simp only [Fo.mapv]
        rw [hh.1, hh.2.1]
/-- Nodes of the same classes, one by one, stand for the same. -/
theorem Stands.congr {N : List Nd} {c F : Nat → Nat} {is js : List Nat} {T : Fo} (h : Stands N c F is T) (hl : is.length = js.length) (hm : ∀ (k i j : Nat), is[k]? = some i → js[k]? = some j → c i = c j) : Stands N c F js T := by
  induction h generalizing js with
  | nil =>
    rcases js with _ | ⟨j, js⟩
    · exact .nil
    · simp at hl
  | @var i is T p hp hk hr ih =>
    rcases js with _ | ⟨j, js⟩
    · simp at hl
    · have hij := hm 0 i j rfl rfl
      rw [hij] at hp ⊢
      exact .var hp hk (ih (by simpa using hl) (fun k x y hx hy => hm (k + 1) x y (by simpa using hx) (by simpa using hy)))
  | @con i is A T p hp hk ha hr iha ih =>
    rcases js with _ | ⟨j, js⟩
    · simp at hl
    · have hij := hm 0 i j rfl rfl
      rw [hij] at hp
      exact .con hp hk ha (ih (by simpa using hl) (fun k x y hx hy => hm (k + 1) x y (by simpa using hx) (by simpa using hy)))
end Go.Proofs.Ytafpbdmggnfdnaa

/- Plain: a search for a node that stands within itself. -/
namespace Go.Proofs.Ytafpbdmggnfdnaa
set_option linter.unusedVariables false

def updN (f : Nat → Nat) (j x : Nat) : Nat → Nat := fun k => if k = j then x else f k
theorem updN_same (f : Nat → Nat) (j x : Nat) : updN f j x j = x := by simp [updN]
theorem updN_other (f : Nat → Nat) (j x k : Nat) (h : k ≠ j) : updN f j x k = f k := by simp [updN, h]
/-- How many of the first n are 0. -/
def zeros (f : Nat → Nat) : Nat → Nat
  | 0 => 0
  | n + 1 => zeros f n + if f n = 0 then 1 else 0
theorem zeros_congr (p q : Nat → Nat) (n : Nat) (h : ∀ i, i < n → (p i = 0 ↔ q i = 0)) : zeros p n = zeros q n := by
  induction n with
  | zero => rfl
  | succ n ih =>
    unfold zeros
    rw [ih (fun i hi => h i (by omega))]
    have := h n (by omega)
    by_cases e : p n = 0
    · rw [if_pos e, if_pos (this.1 e)]
    · rw [if_neg e, if_neg (fun e' => e (this.2 e'))]
theorem zeros_set (f : Nat → Nat) (x v n : Nat) (hx : x < n) (h0 : f x = 0) (hv : v ≠ 0) : zeros (updN f x v) n + 1 = zeros f n := by
  induction n with
  | zero => omega
  | succ n ih =>
    unfold zeros
    by_cases e : n = x
    · subst e
      rw [updN_same, if_neg hv, if_pos h0, zeros_congr _ f n (fun i hi => by rw [updN_other _ _ _ _ (by omega)])]
    · rw [updN_other _ _ _ _ e]
      have := ih (by omega)
      omega
theorem zeros_le (f : Nat → Nat) (n : Nat) : zeros f n ≤ n := by
  induction n with
  | zero => simp [zeros]
  | succ n ih => unfold zeros; split <;> omega

/-- A node that is open: it is a root; k of its arguments have been looked at. -/
structure Opened (n : Nat) (c : Nat → Nat) (A : Nat → List Nat) (st : Nat → Nat) (m k : Nat) : Prop where
  st : st m = 1
  lt : m < n
  root : c m = m
  le : k ≤ (A m).length
/-- The way down to a child. -/
def ChainTo (n : Nat) (c : Nat → Nat) (A : Nat → List Nat) (st : Nat → Nat) : Nat → List (Nat × Nat) → Prop
  | _, [] => True
  | child, (m, k) :: rest => Opened n c A st m k ∧ 0 < k ∧ (∃ x, (A m)[k - 1]? = some x ∧ c x = child) ∧ (∀ (j x : Nat), j + 1 < k → (A m)[j]? = some x → st (c x) = 2) ∧ ChainTo n c A st m rest
def WayOk (n : Nat) (c : Nat → Nat) (A : Nat → List Nat) (st : Nat → Nat) : List (Nat × Nat) → Prop
  | [] => True
  | (m, k) :: rest => Opened n c A st m k ∧ (∀ (j x : Nat), j < k → (A m)[j]? = some x → st (c x) = 2) ∧ ChainTo n c A st m rest
structure CInv (n : Nat) (c : Nat → Nat) (A : Nat → List Nat) (a : Nat) (st : Nat → Nat) (way : List (Nat × Nat)) (fin : Nat → Nat) (t : Nat) : Prop where
  ok : WayOk n c A st way
  nodup : (way.map (·.1)).Nodup
  opened : ∀ m, st m = 1 → m ∈ way.map (·.1)
  small : ∀ m, st m ≤ 2
  fine : ∀ m, st m = 2 → m < n ∧ (∀ x ∈ A m, st (c x) = 2 ∧ fin (c x) < fin m) ∧ fin m < t
  begun : st (c a) ≠ 0

section
variable {n : Nat} {c : Nat → Nat} {A : Nat → List Nat} {st : Nat → Nat}
theorem ChainTo.mono {st' : Nat → Nat} (way : List (Nat × Nat)) : ∀ {child : Nat}, ChainTo n c A st child way → (∀ m ∈ way.map (·.1), st m = 1 → st' m = 1) → (∀ y, st y = 2 → st' y = 2) → ChainTo n c A st' child way := by
  induction way with
  | nil => intros; trivial
  | cons x way ih =>
    obtain ⟨m, k⟩ := x
    rintro child ⟨h1, h2, h3, h4, h5⟩ hm hd
    exact ⟨⟨hm m (by simp) h1.st, h1.lt, h1.root, h1.le⟩, h2, h3, fun j x hj hx => hd _ (h4 j x hj hx), ih h5 (fun m' hm' => hm m' (by simp at hm' ⊢; exact .inr hm')) hd⟩
/-- Down the way every measure falls. -/
theorem ChainTo.falls (h : Nat → Nat) (hh : ∀ m, m < n → c m = m → ∀ x ∈ A m, h (c x) < h m) (way : List (Nat × Nat)) : ∀ {child : Nat}, ChainTo n c A st child way → ∀ m ∈ way.map (·.1), h child < h m := by
  induction way with
  | nil => intro _ _ m hm; simp at hm
  | cons x way ih =>
    obtain ⟨m, k⟩ := x
    rintro child ⟨h1, h2, ⟨x, hx, hc⟩, h4, h5⟩ m' hm'
    have hlt := hh m h1.lt h1.root x (List.mem_of_getElem? hx)
    rw [hc] at hlt
    simp at hm'
    rcases hm' with rfl | hm'
    · exact hlt
    · have := ih h5 m' (by simpa using hm')
      omega

variable {a : Nat} {fin : Nat → Nat} {t : Nat}
theorem CInv.start (ha : a < n) (hc : ∀ i, i < n → c i < n ∧ c (c i) = c i) : CInv n c A a (updN (fun _ => 0) (c a) 1) [(c a, 0)] (fun _ => 0) 0 := by
  refine ⟨⟨⟨updN_same _ _ _, (hc a ha).1, (hc a ha).2, by omega⟩, by intro j x hj; omega, trivial⟩, by simp, fun m hm => ?_, fun m => ?_, fun m hm => ?_, by rw [updN_same]; decide⟩
  · by_cases e : m = c a
    · simp [e]
    · rw [updN_other _ _ _ _ e] at hm; cases hm
  · unfold updN
    split
    · decide
    · exact Nat.zero_le _
  · unfold updN at hm
    split at hm
    · cases hm
    · cases hm
theorem CInv.skip {m k x : Nat} {rest : List (Nat × Nat)} (h : CInv n c A a st ((m, k) :: rest) fin t) (hx : (A m)[k]? = some x) (hd : st (c x) = 2) : CInv n c A a st ((m, k + 1) :: rest) fin t := by
  obtain ⟨h1, h2, h3⟩ := h.ok
  refine ⟨⟨⟨h1.st, h1.lt, h1.root, (List.getElem?_eq_some_iff.1 hx).1⟩, fun j y hj hy => ?_, h3⟩, h.nodup, h.opened, h.small, h.fine, h.begun⟩
  by_cases e : j = k
  · subst e; rw [hx] at hy; injection hy with hy; subst hy; exact hd
  · exact h2 j y (by omega) hy
theorem CInv.push {m k x : Nat} {rest : List (Nat × Nat)} (h : CInv n c A a st ((m, k) :: rest) fin t) (hx : (A m)[k]? = some x) (hd : st (c x) = 0) (hcx : c x < n ∧ c (c x) = c x) : CInv n c A a (updN st (c x) 1) ((c x, 0) :: (m, k + 1) :: rest) fin t := by
  obtain ⟨h1, h2, h3⟩ := h.ok
  have hne : ∀ y, st y ≠ 0 → y ≠ c x := fun y hy e => hy (by rw [e]; exact hd)
  have hkeep : ∀ y, st y = 2 → updN st (c x) 1 y = 2 := fun y hy => by rw [updN_other _ _ _ _ (hne y (by omega))]; exact hy
  have hkeep1 : ∀ y, st y = 1 → updN st (c x) 1 y = 1 := fun y hy => by rw [updN_other _ _ _ _ (hne y (by omega))]; exact hy
  have hopen := h1.st
  have hnot : ∀ y ∈ ((m, k) :: rest).map (·.1), y ≠ c x := by
    intro y hy e
    have key : ∀ (way : List (Nat × Nat)) (child : Nat), ChainTo n c A st child way → ∀ y ∈ way.map (·.1), st y = 1 := by
      intro way
      induction way with
      | nil => intro _ _ y hy; simp at hy
      | cons z way ih =>
        obtain ⟨m', k'⟩ := z
        rintro child ⟨g1, _, _, _, g5⟩ y hy
        simp at hy
        rcases hy with rfl | hy
        · exact g1.st
        · exact ih _ g5 y (by simpa using hy)
    have : st y = 1 := by
      simp at hy
      rcases hy with rfl | hy
      · exact hopen
      · exact key rest m h3 y (by simpa using hy)
    rw [e, hd] at this; omega
  refine ⟨⟨⟨updN_same _ _ _, hcx.1, hcx.2, by omega⟩, by intro j y hj; omega, ⟨hkeep1 m hopen, h1.lt, h1.root, (List.getElem?_eq_some_iff.1 hx).1⟩, by omega, ⟨x, by simpa using hx, rfl⟩, fun j y hj hy => hkeep _ (h2 j y (by omega) hy), h3.mono rest (fun y _ hy => hkeep1 y hy) hkeep⟩, ?_, fun y hy => ?_, fun y => ?_, fun y hy => ?_, ?_⟩
  · have := h.nodup
    simp only [List.map_cons, List.nodup_cons] at this ⊢
    refine ⟨?_, this⟩
    intro hmem
    exact hnot (c x) (by simpa using hmem) rfl
  · by_cases e : y = c x
    · subst e; simp
    · rw [updN_other _ _ _ _ e] at hy
      have := h.opened y hy
      simp only [List.map_cons] at this ⊢
      exact List.mem_cons_of_mem _ this
  · unfold updN; split
    · omega
    · exact h.small y
  · by_cases e : y = c x
    · subst e; rw [updN_same] at hy; omega
    · rw [updN_other _ _ _ _ e] at hy
      obtain ⟨f1, f2, f3⟩ := h.fine y hy
      exact ⟨f1, fun z hz => ⟨hkeep _ (f2 z hz).1, (f2 z hz).2⟩, f3⟩
  · by_cases e : c a = c x
    · rw [e, updN_same]; decide
    · rw [updN_other _ _ _ _ e]; exact h.begun
theorem CInv.pop {m k : Nat} {rest : List (Nat × Nat)} (h : CInv n c A a st ((m, k) :: rest) fin t) (hk : k = (A m).length) : CInv n c A a (updN st m 2) rest (updN fin m t) (t + 1) := by
  obtain ⟨h1, h2, h3⟩ := h.ok
  have hnd := h.nodup
  simp only [List.map_cons, List.nodup_cons] at hnd
  have hkeep : ∀ y, st y = 2 → updN st m 2 y = 2 := fun y hy => by unfold updN; split; rfl; exact hy
  have hrest1 : ∀ y ∈ rest.map (·.1), st y = 1 → updN st m 2 y = 1 := fun y hy h1' => by rw [updN_other _ _ _ _ (by rintro rfl; exact hnd.1 hy)]; exact h1'
  have hfinal : ∀ x ∈ A m, st (c x) = 2 := by
    intro x hx
    obtain ⟨j, hj, hx'⟩ := List.mem_iff_getElem?.1 hx |>.elim fun j hj => (⟨j, (List.getElem?_eq_some_iff.1 hj).1, hj⟩ : ∃ j, j < (A m).length ∧ (A m)[j]? = some x)
    exact h2 j x (by omega) hx'
  refine ⟨?_, hnd.2, fun y hy => ?_, fun y => ?_, fun y hy => ?_, ?_⟩
  · rcases rest with _ | ⟨⟨m1, k1⟩, r⟩
    · trivial
    · obtain ⟨g1, g2, ⟨x, hx, hc⟩, g4, g5⟩ := h3
      refine ⟨⟨hrest1 m1 (by simp) g1.st, g1.lt, g1.root, g1.le⟩, fun j y hj hy => ?_, g5.mono r (fun y hy => hrest1 y (by simp at hy ⊢; exact .inr hy)) hkeep⟩
      by_cases e : j + 1 = k1
      · subst e
        simp at hx
        rw [hx] at hy; injection hy with hy; subst hy
        rw [hc, updN_same]
      · exact hkeep _ (g4 j y (by omega) hy)
  · by_cases e : y = m
    · subst e; rw [updN_same] at hy; omega
    · rw [updN_other _ _ _ _ e] at hy
      have := h.opened y hy
      simp only [List.map_cons, List.mem_cons] at this
      exact this.resolve_left e
  · unfold updN; split
    · omega
    · exact h.small y
  · by_cases e : y = m
    · subst e
      refine ⟨h1.lt, fun x hx => ⟨hkeep _ (hfinal x hx), ?_⟩, by rw [updN_same]; omega⟩
      have h2' := hfinal x hx
      have hne : c x ≠ y := fun e => by rw [e, h1.st] at h2'; omega
      rw [updN_same, updN_other _ _ _ _ hne]
      exact (h.fine _ h2').2.2
    · rw [updN_other _ _ _ _ e] at hy
      obtain ⟨f1, f2, f3⟩ := h.fine y hy
      refine ⟨f1, fun x hx => ⟨hkeep _ (f2 x hx).1, ?_⟩, by rw [updN_other _ _ _ _ e]; omega⟩
      have hne : c x ≠ m := fun e' => by have := (f2 x hx).1; rw [e', h1.st] at this; omega
      rw [updN_other _ _ _ _ hne, updN_other _ _ _ _ e]; exact (f2 x hx).2
  · by_cases e : c a = m
    · rw [e, updN_same]; decide
    · rw [updN_other _ _ _ _ e]; exact h.begun
/-- An argument that is open: there is a cycle. -/
theorem CInv.cycle {m k x : Nat} {rest : List (Nat × Nat)} (h : CInv n c A a st ((m, k) :: rest) fin t) (hx : (A m)[k]? = some x) (hd : st (c x) = 1) (g : Nat → Nat) (hg : ∀ m, m < n → c m = m → ∀ x ∈ A m, g (c x) < g m) : False := by
  obtain ⟨h1, h2, h3⟩ := h.ok
  have hlt := hg m h1.lt h1.root x (List.mem_of_getElem? hx)
  have hm := h.opened _ hd
  simp only [List.map_cons, List.mem_cons] at hm
  rcases hm with e | hm
  · rw [e] at hlt; omega
  · have := h3.falls g hg rest _ hm
    omega
end

/-- What a search without a find tells. -/
structure Searched (N : List Nd) (c : Nat → Nat) (A : Nat → List Nat) (a : Nat) (st fin : Nat → Nat) (t : Nat) : Prop where
  fine : ∀ m, st m = 2 → m < N.length ∧ (∀ x ∈ A m, st (c x) = 2 ∧ fin (c x) < fin m) ∧ fin m < t
  at_ : st (c a) = 2
theorem CInv.searched {N : List Nd} {c : Nat → Nat} {A : Nat → List Nat} {a : Nat} {st fin : Nat → Nat} {t : Nat} (h : CInv N.length c A a st [] fin t) : Searched N c A a st fin t := by
  refine ⟨h.fine, ?_⟩
  have h1 := h.small (c a)
  have h2 := h.begun
  have h3 : st (c a) ≠ 1 := fun e => by have := h.opened _ e; simp at this
  omega
/-- A class's form has the arguments of all its nodes. -/
theorem Searched.acyc {N : List Nd} {c0 c : Nat → Nat} {A F : Nat → Nat} {As : Nat → List Nat} {a b : Nat} {st fin : Nat → Nat} {t : Nat} (h : Searched N c As a st fin t) (hw : Wf N) (h0 : Acyc N c0) (hm : MInv N c0 a b c []) (ha : a < N.length) (hb : b < N.length)
    (hF : ∀ i, i < N.length → Form N c (c i) (F (c i))) (hA : ∀ i p, i < N.length → N[F (c i)]? = some p → As (c i) = p.args) : Acyc N c := by
  have hl := hm.done
  have key : ∀ (i : Nat) (p : Nd), N[i]? = some p → st (c i) = 2 → ∀ x ∈ p.args, st (c x) = 2 ∧ fin (c x) < fin (c i) := by
    intro i p hp hi x hx
    have hil := (List.getElem?_eq_some_iff.1 hp).1
    have Fi := hF i hil
    obtain ⟨q, hq⟩ : ∃ q, N[F (c i)]? = some q := ⟨_, List.getElem?_eq_getElem Fi.lt⟩
    have hpk : p.kind ≠ 1 := fun e => by rw [(hw i p hp).2 e] at hx; simp at hx
    have hqk := Fi.head i p q hp rfl hpk hq
    obtain ⟨e1, e2⟩ := hl.good.closed i (F (c i)) p q hp hq Fi.cls.symm hpk hqk
    obtain ⟨j, hj⟩ := List.mem_iff_getElem?.1 hx
    have hjl := (List.getElem?_eq_some_iff.1 hj).1
    have hy : q.args[j]? = some (q.args[j]'(by have := e1.2.2; omega)) := List.getElem?_eq_getElem _
    have hc := e2 j x _ hj hy
    have := (h.fine _ hi).2.1 _ (by rw [hA i q hil hq]; exact List.mem_of_getElem? hy)
    rwa [← hc] at this
  have hab : c a = c b := hl.good.ab
  refine acyc_after hw h0 hm (fun i => st (c i) = 2) ⟨fun i j _ _ e hi => by show st (c j) = 2; rw [← e]; exact hi, fun i p hp hi x hx => (key i p hp hi x hx).1⟩ h.at_ (by show st (c b) = 2; rw [← hab]; exact h.at_)
    (fun i => if st (c i) = 2 then fin (c i) else 0) (t + 1) (fun i j _ _ e => by simp only [e]) (fun i => ?_) (fun i p hp hi x hx => ?_)
  · show (if st (c i) = 2 then fin (c i) else 0) < t + 1
    split
    · rename_i e; have := (h.fine _ e).2.2; omega
    · omega
  · obtain ⟨k1, k2⟩ := key i p hp hi x hx
    show (if st (c x) = 2 then fin (c x) else 0) < (if st (c i) = 2 then fin (c i) else 0)
    rw [if_pos k1, if_pos hi]; exact k2
theorem Acyc.measure {N : List Nd} {c F : Nat → Nat} {As : Nat → List Nat} (h : Acyc N c) (hw : Wf N) (hF : ∀ i, i < N.length → Form N c (c i) (F (c i))) (hA : ∀ i p, i < N.length → N[F (c i)]? = some p → As (c i) = p.args) (hc : ∀ i, i < N.length → c i < N.length ∧ c (c i) = c i) :
    ∃ g : Nat → Nat, ∀ m, m < N.length → c m = m → ∀ x ∈ As m, g (c x) < g m := by
  obtain ⟨g, g1, g2⟩ := h
  refine ⟨g, fun m hm cm x hx => ?_⟩
  have Fm := hF m hm
  rw [cm] at Fm
  obtain ⟨q, hq⟩ : ∃ q, N[F m]? = some q := ⟨_, List.getElem?_eq_getElem Fm.lt⟩
  have hAm := hA m q hm (by rw [cm]; exact hq)
  rw [cm] at hAm
  rw [hAm] at hx
  have hxl : x < N.length := by
    have := (hw _ q hq).1 x hx
    have := Fm.lt; omega
  have e1 := g1 (c x) x (hc x hxl).1 hxl (hc x hxl).2
  have e2 := g1 (F m) m Fm.lt hm (Fm.cls.trans cm.symm)
  have := g2 (F m) q hq x hx
  omega
end Go.Proofs.Ytafpbdmggnfdnaa

/- Plain: a search for variables from the left, each class once. -/
namespace Go.Proofs.Ytafpbdmggnfdnaa
set_option linter.unusedVariables false

/-- What is not there yet is put behind. -/
def addNew (acc vs : List Nat) : List Nat := vs.foldl (fun acc v => if v ∈ acc then acc else acc ++ [v]) acc
theorem addNew_append (acc a b : List Nat) : addNew acc (a ++ b) = addNew (addNew acc a) b := by unfold addNew; rw [List.foldl_append]
theorem addNew_old (acc vs : List Nat) (h : ∀ v ∈ vs, v ∈ acc) : addNew acc vs = acc := by
  unfold addNew
  induction vs with
  | nil => rfl
  | cons v vs ih => rw [List.foldl_cons, if_pos (h v List.mem_cons_self)]; exact ih (fun u hu => h u (List.mem_cons_of_mem _ hu))
theorem addNew_one (acc : List Nat) (v : Nat) (h : v ∉ acc) : addNew acc [v] = acc ++ [v] := by simp [addNew, h]
theorem addNew_prefix (acc vs : List Nat) : acc <+: addNew acc vs := by
  unfold addNew
  induction vs generalizing acc with
  | nil => exact List.prefix_refl _
  | cons v vs ih =>
    rw [List.foldl_cons]
    split
    · exact ih acc
    · exact (List.prefix_append acc [v]).trans (ih _)
theorem addNew_mem (acc vs : List Nat) (u : Nat) : u ∈ addNew acc vs ↔ u ∈ acc ∨ u ∈ vs := by
  unfold addNew
  induction vs generalizing acc with
  | nil => simp
  | cons v vs ih =>
    rw [List.foldl_cons, ih]
    split
    · rename_i hv
      simp only [List.mem_cons]
      constructor
      · rintro (h | h)
        · exact .inl h
        · exact .inr (.inr h)
      · rintro (h | rfl | h)
        · exact .inl h
        · exact .inl hv
        · exact .inr h
    · simp only [List.mem_append, List.mem_cons, List.mem_singleton]
      constructor
      · rintro ((h | h) | h)
        · exact .inl h
        · rcases h with h | h
          · exact .inr (.inl h)
          · cases h
        · exact .inr (.inr h)
      · rintro (h | h | h)
        · exact .inl (.inl h)
        · exact .inl (.inr (.inl h))
        · exact .inr h
theorem addNew_nodup (acc vs : List Nat) (h : acc.Nodup) : (addNew acc vs).Nodup := by
  unfold addNew
  induction vs generalizing acc with
  | nil => exact h
  | cons v vs ih =>
    rw [List.foldl_cons]
    split
    · exact ih acc h
    · rename_i hv
      refine ih _ ?_
      rw [List.nodup_append]
      refine ⟨h, by simp, ?_⟩
      intro a ha b hb
      simp at hb
      subst hb
      intro e; subst e; exact hv ha

/-- The variables within each node. -/
structure VarsOf (n : Nat) (c : Nat → Nat) (head : Nat → Option (List Nat)) (g : Nat → Nat) (tv : Nat → List Nat) : Prop where
  root : ∀ i, i < n → c i < n ∧ c (c i) = c i
  cls : ∀ i, i < n → tv (c i) = tv i
  var : ∀ r, r < n → c r = r → head r = none → tv r = [r]
  con : ∀ r al, r < n → c r = r → head r = some al → tv r = al.flatMap tv ∧ ∀ x ∈ al, x < n ∧ g (c x) < g r
structure VInv (n : Nat) (c g : Nat → Nat) (tv : Nat → List Nat) (seen : Nat → Nat) (acc stack Y : List Nat) : Prop where
  lt : ∀ x ∈ stack, x < n
  near : ∀ r, seen r ≠ 0 → r < n ∧ c r = r ∧ ∀ v ∈ tv r, v ∈ acc ∨ ∃ x ∈ stack.takeWhile (fun x => decide (g (c x) < g r)), v ∈ tv x
  old : ∀ v ∈ acc, seen v ≠ 0
  total : addNew acc (stack.flatMap tv) = Y
section
variable {n : Nat} {c g : Nat → Nat} {head : Nat → Option (List Nat)} {tv : Nat → List Nat} {seen : Nat → Nat} {acc Y : List Nat}
theorem VInv.skip {x : Nat} {rest : List Nat} (V : VarsOf n c head g tv) (h : VInv n c g tv seen acc (x :: rest) Y) (hs : seen (c x) ≠ 0) : VInv n c g tv seen acc rest Y := by
  have hx := h.lt x List.mem_cons_self
  have hdone : ∀ v ∈ tv x, v ∈ acc := by
    intro v hv
    obtain ⟨_, _, h3⟩ := h.near (c x) hs
    rcases h3 v (by rw [V.cls x hx]; exact hv) with h4 | ⟨y, hy, _⟩
    · exact h4
    · rw [List.takeWhile_cons, if_neg (by simp)] at hy; simp at hy
  refine ⟨fun y hy => h.lt y (List.mem_cons_of_mem _ hy), fun r hr => ?_, h.old, ?_⟩
  · obtain ⟨h1, h2, h3⟩ := h.near r hr
    refine ⟨h1, h2, fun v hv => ?_⟩
    rcases h3 v hv with h4 | ⟨y, hy, hvy⟩
    · exact .inl h4
    · rw [List.takeWhile_cons] at hy
      split at hy
      · rcases List.mem_cons.1 hy with rfl | hy
        · exact .inl (hdone v hvy)
        · exact .inr ⟨y, hy, hvy⟩
      · simp at hy
  · rw [← h.total, List.flatMap_cons, addNew_append, addNew_old acc _ hdone]
theorem VInv.var {x : Nat} {rest : List Nat} (V : VarsOf n c head g tv) (h : VInv n c g tv seen acc (x :: rest) Y) (hs : seen (c x) = 0) (hh : head (c x) = none) : VInv n c g tv (updN seen (c x) 1) (acc ++ [c x]) rest Y ∧ acc ++ [c x] <+: Y := by
  have hx := h.lt x List.mem_cons_self
  have hr := V.root x hx
  have htv : tv x = [c x] := by rw [← V.cls x hx]; exact V.var (c x) hr.1 hr.2 hh
  have hnot : c x ∉ acc := fun hm => h.old _ hm hs
  have htot : addNew (acc ++ [c x]) (rest.flatMap tv) = Y := by
    rw [← h.total, List.flatMap_cons, addNew_append, htv, addNew_one acc _ hnot]
  refine ⟨⟨fun y hy => h.lt y (List.mem_cons_of_mem _ hy), fun r hsr => ?_, fun v hv => ?_, htot⟩, by rw [← htot]; exact addNew_prefix _ _⟩
  · by_cases e : r = c x
    · subst e
      refine ⟨hr.1, hr.2, fun v hv => .inl ?_⟩
      rw [V.cls x hx, htv] at hv
      exact List.mem_append_right _ hv
    · rw [updN_other _ _ _ _ e] at hsr
      obtain ⟨h1, h2, h3⟩ := h.near r hsr
      refine ⟨h1, h2, fun v hv => ?_⟩
      rcases h3 v hv with h4 | ⟨y, hy, hvy⟩
      · exact .inl (List.mem_append_left _ h4)
      · rw [List.takeWhile_cons] at hy
        split at hy
        · rcases List.mem_cons.1 hy with rfl | hy
          · rw [htv] at hvy; exact .inl (List.mem_append_right _ hvy)
          · exact .inr ⟨y, hy, hvy⟩
        · simp at hy
  · rcases List.mem_append.1 hv with hv | hv
    · have := h.old v hv
      rw [updN_other _ _ _ _ (fun e => by rw [e] at this; exact this hs)]; exact this
    · simp at hv; subst hv; rw [updN_same]; decide
theorem takeWhile_all (p : Nat → Bool) (a b : List Nat) (h : ∀ x ∈ a, p x = true) : (a ++ b).takeWhile p = a ++ b.takeWhile p := by
  induction a with
  | nil => rfl
  | cons x a ih => rw [List.cons_append, List.takeWhile_cons, if_pos (h x List.mem_cons_self), ih (fun y hy => h y (List.mem_cons_of_mem _ hy)), List.cons_append]
theorem VInv.con {x : Nat} {rest al : List Nat} (V : VarsOf n c head g tv) (h : VInv n c g tv seen acc (x :: rest) Y) (hs : seen (c x) = 0) (hh : head (c x) = some al) : VInv n c g tv (updN seen (c x) 1) acc (al ++ rest) Y := by
  have hx := h.lt x List.mem_cons_self
  have hr := V.root x hx
  obtain ⟨htc, hfall⟩ := V.con (c x) al hr.1 hr.2 hh
  have htv : tv x = al.flatMap tv := by rw [← V.cls x hx]; exact htc
  refine ⟨fun y hy => ?_, fun r hsr => ?_, fun v hv => ?_, ?_⟩
  · rcases List.mem_append.1 hy with hy | hy
    · exact (hfall y hy).1
    · exact h.lt y (List.mem_cons_of_mem _ hy)
  · by_cases e : r = c x
    · subst e
      refine ⟨hr.1, hr.2, fun v hv => .inr ?_⟩
      rw [htc] at hv
      obtain ⟨y, hy, hvy⟩ := List.mem_flatMap.1 hv
      refine ⟨y, ?_, hvy⟩
      rw [takeWhile_all _ _ _ (fun z hz => decide_eq_true (hfall z hz).2)]
      exact List.mem_append_left _ hy
    · rw [updN_other _ _ _ _ e] at hsr
      obtain ⟨h1, h2, h3⟩ := h.near r hsr
      refine ⟨h1, h2, fun v hv => ?_⟩
      rcases h3 v hv with h4 | ⟨y, hy, hvy⟩
      · exact .inl h4
      · rw [List.takeWhile_cons] at hy
        split at hy
        · rename_i hg
          have hg' : g (c x) < g r := of_decide_eq_true hg
          have hall : ∀ z ∈ al, decide (g (c z) < g r) = true := fun z hz => decide_eq_true (Nat.lt_trans (hfall z hz).2 hg')
          refine .inr ?_
          rw [takeWhile_all _ _ _ hall]
          rcases List.mem_cons.1 hy with rfl | hy
          · rw [htv] at hvy
            obtain ⟨z, hz, hvz⟩ := List.mem_flatMap.1 hvy
            exact ⟨z, List.mem_append_left _ hz, hvz⟩
          · exact ⟨y, List.mem_append_right _ hy, hvy⟩
        · simp at hy
  · have := h.old v hv
    rw [updN_other _ _ _ _ (fun e => by rw [e] at this; exact this hs)]; exact this
  · rw [← h.total, List.flatMap_cons, List.flatMap_append, htv]
/-- The next node is begun. -/
theorem VInv.next {x : Nat} (h : VInv n c g tv seen acc [] acc) (hx : x < n) : VInv n c g tv seen acc [x] (addNew acc (tv x)) :=
  ⟨by simpa using hx, fun r hr => by
    obtain ⟨h1, h2, h3⟩ := h.near r hr
    exact ⟨h1, h2, fun v hv => (h3 v hv).imp id (fun ⟨y, hy, _⟩ => by simp at hy)⟩, h.old, by simp⟩
theorem VInv.done (h : VInv n c g tv seen acc [] Y) : Y = acc := by have := h.total; simpa [addNew] using this.symm
theorem VInv.start : VInv n c g tv (fun _ => 0) [] [] [] := ⟨by simp, fun r hr => absurd rfl hr, by simp, rfl⟩
end
end Go.Proofs.Ytafpbdmggnfdnaa

/- A region that draws its order, in a round of a loop over a function: one walk in the order of the text, a tail behind it. -/
namespace Go.Proofs.Ytafpbdmggnfdnaa
open Go
set_option linter.unusedVariables false

section
variable {P : Program} {ops : Array Oper} {l n : Nat}
theorem wpIn_of_wp_round {o : Oper} {a : Act} {w : World} {K K' : Act → World → Prop} {Q : Exit → Act → World → Prop} (hd : ∀ c, o.op ≠ .defer c) (hK : ∀ a w, K a w → K' a w) (h : o.wp P a w K Q) : o.wpIn (Fence.wide.inRound l) n P a w K' Q := by
  refine ⟨fun _ _ => trivial, ?_⟩
  rw [Fence.inRound_round, Oper.semAt_some l _ _ hd]
  unfold Oper.wp at h
  generalize (execOp a.eval o).run P w = r at *
  cases r with
  | ok x w' =>
    cases x <;> simp only [Oper.upon, Oper.uponIn] at h ⊢
    case value v => exact hK _ _ h
    case skip => exact hK _ _ h
    case defer d => exact hK _ _ h
    case enter f args =>
      refine ⟨(fun hh => by cases hh), CallsIn.inRound l (callsIn_wide.2 (h.mono fun e w'' he => ?_))⟩
      cases e with
      | returned v => exact hK _ _ he
      | panicked c => exact he
      | outgrown => exact he
    case row row args => exact ⟨fun hh => (by cases hh), fun c cs _ => let ⟨v, w'', hv, hs⟩ := h c cs; ⟨v, w'', hK _ _ hv, stepsIn_wide.2 hs⟩⟩
  | halt x w' => cases x <;> simp only [Oper.upon, Oper.uponIn] at h ⊢ <;> exact h
theorem wpAnyIn_of_wpAny {Q : Exit → Act → World → Prop} {md : Region.Mode} (hout : ¬ LetsOut Q) (hd : ∀ (i : Nat) (o : Oper), ops[i]? = some o → ∀ c, o.op ≠ .defer c) : ∀ (fuel : Nat) (listed : Array Bool) (a : Act) (w : World), wpAny P md ops Q fuel listed a w → wpAnyIn (Fence.wide.inRound l) n P md ops Q fuel listed a w := by
  intro fuel
  induction fuel with
  | zero => intro listed a w h; exact h
  | succ fuel ih =>
    intro listed a w h
    refine ⟨h.1, fun i hi => ?_⟩
    have h2 := h.2 i hi
    unfold wpOp at h2
    unfold wpOpIn
    cases ho : ops[i]? with
    | none => simp only [ho] at h2 ⊢; exact ih _ _ _ h2
    | some o =>
      simp only [ho] at h2 ⊢
      split
      · rename_i hw
        simp only [hw, if_true] at h2
        exact wpIn_of_wp_round (hd i o ho) (fun a w => ih _ a w) (h2.resolve_right fun h3 => hout h3.2)
      · rename_i hw
        simp only [hw] at h2
        exact ⟨fun _ _ => trivial, ih _ _ _ h2⟩
/-- All but the last few operations read; the rest come in one order. -/
theorem round_still_tail {id : Nat} {Q : Exit → Act → World → Prop} {a : Act} {w : World} {os : List Oper} (k : Nat) (hout : ¬ LetsOut Q) (hm : P.follows .mixedOrders = true) (hB : Region.lexTailB .any os.toArray k = true) (hd : (os.all fun o => match o.op with | .defer _ => false | _ => true) = true)
    (h : wpStill P os.toArray { w with drawn := w.drawn + 1 } (fun a' => wpList P os.toArray Q (os.drop k) a' { w with drawn := w.drawn + 1 }) (os.take k) a) : (Code.region id os.toArray true).wpIn (Fence.wide.inRound l) n P Q a w := by
  have hd' : ∀ (i : Nat) (o : Oper), os.toArray[i]? = some o → ∀ c, o.op ≠ .defer c := by
    intro i o ho c hc
    have hmem : o ∈ os := by simpa using List.mem_of_getElem? (show os[i]? = some o by simpa using ho)
    have := List.all_eq_true.1 hd o hmem
    rw [hc] at this
    cases this
  simp only [Region.lexTailB, Bool.and_eq_true, decide_eq_true_eq] at hB
  obtain ⟨⟨⟨⟨hsel, hn⟩, hs⟩, hc⟩, hlex⟩ := hB
  have hk : k < os.length := by simpa using hn
  have htl : (os.take k).length = k := by rw [List.length_take]; omega
  have hdl : (os.drop k).length = os.toArray.size - k := by simp
  have inv0 : HeadInv .any os.toArray k (Array.replicate os.toArray.size false) :=
    ⟨by simp, fun j oj _ hl => (by rw [getD_replicate_false] at hl; cases hl), fun t _ ht => getD_in (by simpa using ht) (getD_replicate_false _ _)⟩
  have H := wpAnyL_lex (md := .any) (g := os.toArray.size - k) hsel hs hc hn (os.take k) 0 _ a (fun j hj => by
    have hj' : j < k := by rw [htl] at hj; exact hj
    simp [hj']) (by simpa using htl) inv0 (by rw [htl]; exact hlex) h
  have hall := wpAny_of_head (Q' := Q) (g := os.toArray.size - k) (fun listed a' hL => by
    have := wpAny_of_seq (md := .any) (Q' := Q) (os.drop k) k listed a' { w with drawn := w.drawn + 1 } (fun j => by simp [List.getElem?_drop]) (by rw [hdl]; exact hL.1) hL.2
    rwa [hdl] at this) _ _ _ H
  rw [htl, show k + (os.toArray.size - k) = os.toArray.size by omega] at hall
  exact wpIn_region_any hm (wpAnyIn_of_wpAny hout hd' _ _ _ _ hall)
end
end Go.Proofs.Ytafpbdmggnfdnaa
