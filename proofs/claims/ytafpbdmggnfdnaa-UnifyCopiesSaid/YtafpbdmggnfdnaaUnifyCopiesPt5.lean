/- Part 5 of the proof of UnifyCopies: what follows was kept as these texts: StoreUndo, PlainCycle, MapInt, StoreCycle, StoreUnify. -/
import Derived.Test.YtafpbdmggnfdnaaUnifyCopiesPt1
import Derived.Test.YtafpbdmggnfdnaaUnifyCopiesPt2
import Derived.Test.YtafpbdmggnfdnaaUnifyCopiesPt3
import Derived.Test.YtafpbdmggnfdnaaUnifyCopiesPt4
import Derived.Maps.Own
import Derived.Maps.OwnOps
import Derived.Maps.OwnSet
import Derived.Maps.Views
/- The program's store: undo. -/
namespace Go.Proofs.Ytafpbdmggnfdnaa
open Go.RowKit Go.Shelf
set_option linter.unusedVariables false
attribute [local go_sem] Oper.semAt_some

theorem stepCells_at (l : List Stp) (i : Nat) (s : Stp) (h : l[i]? = some s) : (stepCells l)[i * 4]? = some (.int .i64 (s.1 : Int)) ∧ (stepCells l)[i * 4 + 1]? = some (.int .i64 (s.2.1 : Int)) ∧ (stepCells l)[i * 4 + 2]? = some (.int .i64 (s.2.2.1 : Int)) ∧ (stepCells l)[i * 4 + 3]? = some (.int .i64 (s.2.2.2 : Int)) := by
  induction l generalizing i with
  | nil => simp at h
  | cons x l ih =>
    rcases i with _ | i
    · simp at h; subst h; simp [stepCells]
    · simp at h
      obtain ⟨h1, h2, h3, h4⟩ := ih i h
      have e : ∀ j, (stepCells (x :: l))[j + 4]? = (stepCells l)[j]? := by intro j; simp [stepCells]
      exact ⟨by rw [show (i + 1) * 4 = i * 4 + 4 by omega, e]; exact h1, by rw [show (i + 1) * 4 + 1 = i * 4 + 1 + 4 by omega, e]; exact h2, by rw [show (i + 1) * 4 + 2 = i * 4 + 2 + 4 by omega, e]; exact h3, by rw [show (i + 1) * 4 + 3 = i * 4 + 3 + 4 by omega, e]; exact h4⟩
theorem stps_of_own {w : World} {base n : Nat} {e : TypeId} {l : List Stp} {A : Option Addr} {c : Nat} (h : w.ownsRow base e 4 (.slice A n c) n (stepCells l)) : StpsAt w A l := by
  intro i s hs
  have hn : 0 < n := by
    have h1 := h.1
    rw [stepCells_length] at h1
    have := (List.getElem?_eq_some_iff.1 hs).1
    omega
  obtain ⟨g, cap, hv, _⟩ := own_pos h hn
  injection hv with hA _ _
  subst hA
  obtain ⟨h1, h2, h3, h4⟩ := stepCells_at l i s hs
  have c : ∀ j u, (stepCells l)[j]? = some u → w.cell? ⟨g, j, none⟩ = some u := by
    intro j u hu
    have := h.cells (g := g) rfl j u hu
    rwa [addr_add', Nat.zero_add] at this
  exact ⟨g, 0, rfl, by rw [Nat.zero_add]; exact c _ _ h1, by rw [Nat.zero_add]; exact c _ _ h2, by rw [Nat.zero_add]; exact c _ _ h3, by rw [Nat.zero_add]; exact c _ _ h4⟩

/-- A step whose nodes are known, with its place. -/
abbrev PSt (n : Nat) := { x : Nat × Stp // x.2.1 < n ∧ x.2.2.1 < n }
def undoL {n : Nat} (S : PS) (l : List (PSt n)) : PS := l.foldl (fun S x => S.undo x.1.2) S
theorem undoL_snoc {n : Nat} (S : PS) (l : List (PSt n)) (x : PSt n) : undoL S (l ++ [x]) = (undoL S l).undo x.1.2 := by simp [undoL]
theorem undoL_nodes {n : Nat} (S : PS) (l : List (PSt n)) : (undoL S l).nodes = S.nodes := by
  unfold undoL
  induction l generalizing S with
  | nil => rfl
  | cons x l ih => rw [List.foldl_cons, ih]; rfl
def placed {n : Nat} : (l : List Stp) → (∀ s ∈ l, s.1 < n ∧ s.2.1 < n) → Nat → List (PSt n)
  | [], _, _ => []
  | s :: l, h, k => ⟨(k, s), h s List.mem_cons_self⟩ :: placed l (fun s hs => h s (List.mem_cons_of_mem _ hs)) (k + 1)
theorem placed_length {n : Nat} (l : List Stp) (h : ∀ s ∈ l, s.1 < n ∧ s.2.1 < n) (k : Nat) : (placed l h k).length = l.length := by
  induction l generalizing k with
  | nil => rfl
  | cons s l ih => simp [placed, ih]
theorem placed_idx {n : Nat} (l : List Stp) (h : ∀ s ∈ l, s.1 < n ∧ s.2.1 < n) (k i : Nat) (hi : i < (placed l h k).length) : ((placed l h k)[i]).1.1 = k + i := by
  induction l generalizing k i with
  | nil => simp [placed] at hi
  | cons s l ih =>
    rcases i with _ | i
    · rfl
    · simp only [placed, List.getElem_cons_succ]
      rw [ih]; omega
theorem placed_val {n : Nat} (l : List Stp) (h : ∀ s ∈ l, s.1 < n ∧ s.2.1 < n) (k : Nat) : (placed l h k).map (fun x => x.1.2) = l := by
  induction l generalizing k with
  | nil => rfl
  | cons s l ih => simp [placed, ih]
theorem undoL_reverse {n : Nat} (S : PS) (l : List Stp) (h : ∀ s ∈ l, s.1 < n ∧ s.2.1 < n) (k : Nat) : undoL S (placed l h k).reverse = undoAll S l := by
  unfold undoL undoAll
  rw [List.foldl_reverse]
  conv => rhs; rw [← placed_val l h k, List.foldr_map]

set_option maxRecDepth 100000 in
set_option maxHeartbeats 4000000 in
theorem undo_any {w : World} {base base' : Nat} {L : Lay} {S : PS} (h : St w base L S) (vs : Value) (steps : List Stp) (hs : w.ownsRow base' 108 4 vs steps.length (stepCells steps)) (hb : ∀ s ∈ steps, s.1 < S.nodes.length ∧ s.2.1 < S.nodes.length) (hl : steps.length ≤ 1000000) :
    Calls Try.prog 47 #[.pointer (some ⟨L.g, 0, none⟩), vs] w fun e w' => (∃ v, e = .returned v) ∧ St w' base L (undoAll S steps) ∧ Only L.fq w w' := by
  obtain ⟨A, cap, rfl, -, -⟩ := own_len hs
  have hsf : ∀ b, (Value.slice A steps.length cap).ownBlock = some b → ¬ L.fq b := by
    intro b hb' hf
    rcases hf with e | e | e
    · exact own_ne hs h.above (by decide) b hb' e
    · exact own_ne hs h.ranks (by decide) b hb' e
    · exact own_ne hs h.forms (by decide) b hb' e
  refine (callsIn_wide (n := 3)).1 ?_
  refine callsIn_of_wp_marks Try.func47 rfl trivial ?_ rfl
  simp only [Try.ntmps47, List.size_toArray, List.length_cons, List.length_nil, Nat.reduceAdd, Nat.reduceSub, Array.replicate_succ, Array.replicate_zero, List.push_toArray, List.append_toArray, List.nil_append, List.cons_append]
  gi_wp2
  refine ⟨trivial, ?_⟩
  refine (back_in Fence.wide _ trivial rfl (.slice A steps.length cap) rfl _).mono ?_
  rintro e w' ⟨rfl, rfl⟩
  gi_wp2
  obtain ⟨W0, hW0⟩ : ∃ W0, (w.alloc (.cells #[.pointer (some ⟨L.g, 0, none⟩)] 26)).alloc (.cells #[.slice A steps.length cap] 84) = W0 := ⟨_, rfl⟩
  have hbw : Below w.heap.size w W0 := by rw [← hW0]; exact ((Below.refl _ _).alloc (Nat.le_refl _) _).alloc (by simp) _
  have hz0 : W0.heap.size = w.heap.size + 2 := by rw [← hW0]; simp
  have hB1 : Boxed W0 w.heap.size 26 (.pointer (some ⟨L.g, 0, none⟩)) := by rw [← hW0]; exact (Boxed.new w _ _).alloc _
  have hB2 : W0.cell? ⟨w.heap.size + 1, 0, none⟩ = some (.slice A steps.length cap) := by
    rw [← hW0]; have := heap_alloc_new (w.alloc (.cells #[.pointer (some ⟨L.g, 0, none⟩)] 26)) (.cells #[.slice A steps.length cap] 84); rw [World.size_alloc] at this; rw [cell_of_row _ _ _ _ _ _ this]; rfl
  simp only [World.size_alloc, hW0]
  clear hW0
  have old : Older L w.heap.size := h.older
  have hst0 : St W0 base L S := h.later hbw
  have hA : ∀ a, A = some a → ¬ (L.fq a.block ∨ W0.heap.size ≤ a.block) := by
    intro a ha hf
    rcases hf with e | e
    · exact hsf a.block (by rw [ha]; rfl) e
    · have := (hs.lt a.block (by rw [ha]; rfl)).2; omega
  have hStp : StpsAt W0 A ((placed steps hb 0).map fun x => x.1.2) := by
    rw [placed_val]
    exact stps_of_own (own_keep hs fun b hb' => hbw.block b (hs.lt b hb').2)
  have hseq : SeqStopsK Fence.wide 2 Try.prog 68 #[.pointer (some ⟨w.heap.size + 1, 0, none⟩)] (fun x : PSt S.nodes.length => #[.int .i64 (x.1.1 : Int), stpV x.1.2]) (Only fun b => L.fq b ∨ W0.heap.size ≤ b) (fun ys => ys = (placed steps hb 0).reverse) (fun _ => True) (placed steps hb 0).length W0 := by
    intro l J Jx W hW _ _ hY h0
    refine back1_in Fence.wide 2 trivial rfl (by decide) l (w.heap.size + 1) _ A cap (fun x => x.1.1) (fun x => x.1.2) (placed steps hb 0) (fun i hi => by rw [placed_idx]; omega) (by rw [placed_length]; exact hl) J Jx hY W ?_ ?_ ?_ hA h0
    · rw [placed_length]; exact (hW.cell (p := ⟨w.heap.size + 1, 0, none⟩) (by simp only; omega)).trans hB2
    · rintro (e | e)
      · have := old.fp _ (Lay.fq_fp e); omega
      · omega
    · intro i s' hs'
      obtain ⟨b, off, e, d0, d1, d2, d3⟩ := hStp i s' hs'
      exact ⟨b, off, e, (hW.cell (p := ⟨b, off + i * 4, none⟩) (World.block_lt_of_cell? W0 _ d0)).trans d0, (hW.cell (p := ⟨b, off + i * 4 + 1, none⟩) (World.block_lt_of_cell? W0 _ d1)).trans d1, (hW.cell (p := ⟨b, off + i * 4 + 2, none⟩) (World.block_lt_of_cell? W0 _ d2)).trans d2, (hW.cell (p := ⟨b, off + i * 4 + 3, none⟩) (World.block_lt_of_cell? W0 _ d3)).trans d3⟩
  refine wpIn_rangeFunc_ownH rfl (by decide) (gf := 68) (lb := #[.pointer (some ⟨w.heap.size + 1, 0, none⟩)]) rfl trivial (enters_of Try.func68 (by kernel_rfl) rfl)
    hseq (fun h1 h2 => h1.trans h2) (fun W l o o' hl' ho hc _ => ?kb) (Below.refl _ _) (fun _ => rfl)
    (fun pre W => Boxed W w.heap.size 26 (.pointer (some ⟨L.g, 0, none⟩)) ∧ St W base L (undoL S pre) ∧ Only L.fq w W ∧ W0.heap.size ≤ W.heap.size)
    (fun _ _ _ => False) ?hI (fun _ _ _ _ _ hs _ _ => hs) ⟨hB1, hst0, Only.of_below' hbw, Nat.le_refl _⟩
    (fun x a' W => ∃ Bx, W0.heap.size ≤ Bx ∧ W.heap[Bx]? = some (.cells #[.int .i64 (x.1.2.1 : Int), .int .i64 (x.1.2.2.1 : Int), .int .i64 (x.1.2.2.2.1 : Int), .int .i64 (x.1.2.2.2.2 : Int)] 108 (0, 0)) ∧ a' = { tmps := #[.pointer (some ⟨L.g, 0, none⟩), .slice A steps.length cap, .pointer (some ⟨w.heap.size, 0, none⟩), undef, undef, .pointer (some ⟨Bx, 0, none⟩), .slice A steps.length cap, .func (.func 68) #[] #[.pointer (some ⟨w.heap.size + 1, 0, none⟩)], .int .i64 (x.1.1 : Int), stpV x.1.2, undef, undef, undef, undef, undef, undef, undef, undef, undef, undef, undef, undef, undef, undef, undef, undef, undef, undef, undef, undef, undef, undef, undef, undef, undef, undef, undef], defers := [] })
    ?hAx ?assign ?body ?done ?stop
  case kb => exact (only_of_grown (grownBy_putObj' W l o')).mono fun b _ e => .inr (by injection e with e; omega)
  case hI =>
    rintro s W W' row ⟨h1, h2, h3, h4⟩ hg hr
    exact ⟨boxed_own w.heap.size _ (fun _ : Unit => _) () W W' row h1 hg (fun r e => (hr r e).2), h2.grown old hg (fun b e => by have := (hr b e).1; omega), h3.grown hg (fun b e => .inr (by have := (hr b e).1; omega)), Nat.le_trans h4 hg.size⟩
  case hAx =>
    rintro x a' _ W W' row ⟨Bx, h1, h2, h3⟩ hg hr
    refine ⟨Bx, h1, (hg.block Bx (Array.getElem?_eq_some_iff.1 h2).1 (fun e => ?_)).trans h2, h3⟩
    obtain ⟨_, o, ho, hc⟩ := hr Bx e.symm
    rw [h2] at ho; cases ho; cases hc
  case assign =>
    rintro l pre x W K ⟨hbx, hst, hon, hsz⟩ hK
    unfold stpV
    gi_wp2
    exact hK _ _ ((KeepsOthers.alloc _ _).from _) ((Only.refl _ W).alloc _) ⟨hbx.alloc _, hst.later ((Below.refl _ W).alloc (Nat.le_refl _) _), hon.alloc _, by simp; omega⟩ ⟨W.heap.size, hsz, heap_alloc_new W _, rfl⟩
  case body =>
    rintro l pre x a' W hl' ⟨r, hr⟩ ⟨hbx, hst, hon, hsz⟩ ⟨Bx, hBx, hX, rfl⟩ hlt
    obtain ⟨⟨ix, under, over, form, rank⟩, hu, ho⟩ := x
    simp only at hu ho hX ⊢
    obtain ⟨P0, hP0⟩ : ∃ P0, undoL S pre = P0 := ⟨_, rfl⟩
    have hpre : undoL S (pre ++ [⟨(ix, under, over, form, rank), hu, ho⟩]) = P0.undo (under, over, form, rank) := by rw [undoL_snoc, hP0]
    rw [hP0] at hst
    have hn : P0.nodes.length = S.nodes.length := by rw [← hP0, undoL_nodes]
    obtain ⟨ba, ca, hva, hca⟩ := own_pos hst.above (by omega)
    obtain ⟨br, cr, hvr, hcr⟩ := own_pos hst.ranks (by omega)
    obtain ⟨bf, cf, hvf, hcf⟩ := own_pos hst.forms (by omega)
    obtain ⟨-, g1, g2, g3⟩ := hst.gcell
    rw [hva] at g1; rw [hvr] at g2; rw [hvf] at g3
    have hm := hst.many
    have x0 : W.cell? ⟨Bx, 0, none⟩ = some (.int .i64 (under : Int)) := by rw [cell_of_row _ _ _ _ _ _ hX]; rfl
    have bx := hbx.cell
    have a0 := own_nat hst.above hva under (by rw [hst.la]; omega)
    rw [par_at (by rw [hst.la]; omega)] at a0
    have az : W.frozen? ⟨ba, under, none⟩ = false := hst.free (.inr (.inl rfl)) hva under
    gi_wp2
    refine round_still_tail 9 (by rintro ⟨_, _, hq⟩; exact hq) (by kernel_rfl) (by kernel_rfl) (by kernel_rfl) ?_
    simp only [List.take_succ_cons, List.take_zero, List.drop_succ_cons, List.drop_zero]
    repeat still_step
    refine wpStill_nil ?_
    go_wp2
    obtain ⟨W1, hW1⟩ : ∃ W1, (W.setCell ⟨ba, under, none⟩ (.int .i64 (under : Int))).drew = W1 := ⟨_, rfl⟩
    have hst1 : St W1 base L { P0 with above := P0.above.set under under } := by rw [← hW1]; exact (hst.set_above hva under under).drew
    have on1 : Only L.fq W W1 := by rw [← hW1]; exact ((Only.refl L.fq W).setCell (p := ⟨ba, under, none⟩) (.inl (.inl (by rw [hva]; rfl))) _).drew
    have ks1 : KeepsOthers W W1 := by rw [← hW1]; exact (KeepsOthers.setCell _ _ _).trans (KeepsOthers.drew _)
    have hX1 : W1.heap[Bx]? = _ := (on1.block Bx (Array.getElem?_eq_some_iff.1 hX).1 (fun hf => by have := old.fp _ (Lay.fq_fp hf); omega)).trans hX
    have hbx1 : Boxed W1 w.heap.size 26 (.pointer (some ⟨L.g, 0, none⟩)) := (on1.block w.heap.size (Array.getElem?_eq_some_iff.1 hbx).1 (fun hf => by have := old.fp _ (Lay.fq_fp hf); omega)).trans hbx
    simp only [hW1]
    clear hW1 x0 a0 az g1 bx
    obtain ⟨-, -, -, g3⟩ := hst1.gcell
    rw [hvf] at g3
    have bx := hbx1.cell
    have x1 : W1.cell? ⟨Bx, 1, none⟩ = some (.int .i64 (over : Int)) := by rw [cell_of_row _ _ _ _ _ _ hX1]; rfl
    have x2 : W1.cell? ⟨Bx, 2, none⟩ = some (.int .i64 (form : Int)) := by rw [cell_of_row _ _ _ _ _ _ hX1]; rfl
    have a0 := own_nat hst1.forms hvf over (by rw [hst1.lf]; simp only; omega)
    rw [par_at (by rw [hst1.lf]; simp only; omega)] at a0
    have az : W1.frozen? ⟨bf, over, none⟩ = false := hst1.free (.inr (.inr (.inr rfl))) hvf over
    gi_wp2
    refine round_still_tail 9 (by rintro ⟨_, _, hq⟩; exact hq) (by kernel_rfl) (by kernel_rfl) (by kernel_rfl) ?_
    simp only [List.take_succ_cons, List.take_zero, List.drop_succ_cons, List.drop_zero]
    repeat still_step
    refine wpStill_nil ?_
    go_wp2
    obtain ⟨W2, hW2⟩ : ∃ W2, (W1.setCell ⟨bf, over, none⟩ (.int .i64 (form : Int))).drew = W2 := ⟨_, rfl⟩
    have hst2 : St W2 base L { P0 with above := P0.above.set under under, forms := P0.forms.set over form } := by rw [← hW2]; exact (hst1.set_forms hvf over form).drew
    have on2 : Only L.fq W1 W2 := by rw [← hW2]; exact ((Only.refl L.fq W1).setCell (p := ⟨bf, over, none⟩) (.inl (.inr (.inr (by rw [hvf]; rfl)))) _).drew
    have ks2 : KeepsOthers W1 W2 := by rw [← hW2]; exact (KeepsOthers.setCell _ _ _).trans (KeepsOthers.drew _)
    have hX2 : W2.heap[Bx]? = _ := (on2.block Bx (Array.getElem?_eq_some_iff.1 hX1).1 (fun hf => by have := old.fp _ (Lay.fq_fp hf); omega)).trans hX1
    have hbx2 : Boxed W2 w.heap.size 26 (.pointer (some ⟨L.g, 0, none⟩)) := (on2.block w.heap.size (Array.getElem?_eq_some_iff.1 hbx1).1 (fun hf => by have := old.fp _ (Lay.fq_fp hf); omega)).trans hbx1
    simp only [hW2]
    clear hW2 x1 x2 a0 az g3 bx
    obtain ⟨-, -, g2, -⟩ := hst2.gcell
    rw [hvr] at g2
    have bx := hbx2.cell
    have x1 : W2.cell? ⟨Bx, 1, none⟩ = some (.int .i64 (over : Int)) := by rw [cell_of_row _ _ _ _ _ _ hX2]; rfl
    have x3 : W2.cell? ⟨Bx, 3, none⟩ = some (.int .i64 (rank : Int)) := by rw [cell_of_row _ _ _ _ _ _ hX2]; rfl
    have a0 := own_nat hst2.ranks hvr over (by rw [hst2.lr]; simp only; omega)
    rw [par_at (by rw [hst2.lr]; simp only; omega)] at a0
    have az : W2.frozen? ⟨br, over, none⟩ = false := hst2.free (.inr (.inr (.inl rfl))) hvr over
    gi_wp2
    refine round_still_tail 9 (by rintro ⟨_, _, hq⟩; exact hq) (by kernel_rfl) (by kernel_rfl) (by kernel_rfl) ?_
    simp only [List.take_succ_cons, List.take_zero, List.drop_succ_cons, List.drop_zero]
    repeat still_step
    refine wpStill_nil ?_
    go_wp2
    have on3 : Only L.fq W2 (W2.setCell ⟨br, over, none⟩ (.int .i64 (rank : Int))).drew := ((Only.refl L.fq W2).setCell (p := ⟨br, over, none⟩) (.inl (.inr (.inl (by rw [hvr]; rfl)))) _).drew
    have onA := (on1.trans on2).trans on3
    refine ⟨((ks1.trans ks2).trans ((KeepsOthers.setCell W2 ⟨br, over, none⟩ (.int .i64 (rank : Int))).trans (KeepsOthers.drew _))).from _, onA.mono (fun b _ hf => .inl hf), (on3.block w.heap.size (Array.getElem?_eq_some_iff.1 hbx2).1 (fun hf => by have := old.fp _ (Lay.fq_fp hf); omega)).trans hbx2, ?_, hon.trans onA, Nat.le_trans hsz onA.size⟩
    rw [hpre]
    exact (hst2.set_ranks hvr over rank).drew
  case done =>
    rintro D ys W hD rfl ⟨hbx, hst, hon, hsz⟩ hK
    gi_wp2
    refine ⟨by simp, .inl ⟨_, _, rfl, run_takeDeferred hK, ?_⟩⟩
    rw [undoL_reverse] at hst
    exact ⟨_, results_none rfl _ _ _, ⟨_, rfl⟩, hst.grown old (grownBy_putObj' W D _) (fun b e => by injection e with e; omega), hon.grown (grownBy_putObj' W D _) (fun b e => .inr (by injection e with e; omega))⟩
  case stop =>
    rintro D c pre W _ _ h _
    exact h.elim
end Go.Proofs.Ytafpbdmggnfdnaa

/- Plain: a search for a node that stands within itself. -/
namespace Go.Proofs.Ytafpbdmggnfdnaa
set_option linter.unusedVariables false

def updN (f : Nat → Nat) (j x : Nat) : Nat → Nat := fun k => if k = j then x else f k
theorem updN_same (f : Nat → Nat) (j x : Nat) : updN f j x j = x := by simp [updN]
theorem updN_other (f : Nat → Nat) (j x k : Nat) (h : k ≠ j) : updN f j x k = f k := by simp [updN, h]
/-- How many of the first n are 0. -/
def zeros (f : Nat → Nat) : Nat → Nat
  | 0 => 0
  | n + 1 => zeros f n + if f n = 0 then 1 else 0
theorem zeros_congr (p q : Nat → Nat) (n : Nat) (h : ∀ i, i < n → (p i = 0 ↔ q i = 0)) : zeros p n = zeros q n := by
  induction n with
  | zero => rfl
  | succ n ih =>
    unfold zeros
    rw [ih (fun i hi => h i (by omega))]
    have := h n (by omega)
    by_cases e : p n = 0
    · rw [if_pos e, if_pos (this.1 e)]
    · rw [if_neg e, if_neg (fun e' => e (this.2 e'))]
theorem zeros_set (f : Nat → Nat) (x v n : Nat) (hx : x < n) (h0 : f x = 0) (hv : v ≠ 0) : zeros (updN f x v) n + 1 = zeros f n := by
  induction n with
  | zero => omega
  | succ n ih =>
    unfold zeros
    by_cases e : n = x
    · subst e
      rw [updN_same, if_neg hv, if_pos h0, zeros_congr _ f n (fun i hi => by rw [updN_other _ _ _ _ (by omega)])]
    · rw [updN_other _ _ _ _ e]
      have := ih (by omega)
      omega
theorem zeros_le (f : Nat → Nat) (n : Nat) : zeros f n ≤ n := by
  induction n with
  | zero => simp [zeros]
  | succ n ih => unfold zeros; split <;> omega

/-- A node that is open: it is a root; k of its arguments have been looked at. -/
structure Opened (n : Nat) (c : Nat → Nat) (A : Nat → List Nat) (st : Nat → Nat) (m k : Nat) : Prop where
  st : st m = 1
  lt : m < n
  root : c m = m
  le : k ≤ (A m).length
/-- The way down to a child. -/
def ChainTo (n : Nat) (c : Nat → Nat) (A : Nat → List Nat) (st : Nat → Nat) : Nat → List (Nat × Nat) → Prop
  | _, [] => True
  | child, (m, k) :: rest => Opened n c A st m k ∧ 0 < k ∧ (∃ x, (A m)[k - 1]? = some x ∧ c x = child) ∧ (∀ (j x : Nat), j + 1 < k → (A m)[j]? = some x → st (c x) = 2) ∧ ChainTo n c A st m rest
def WayOk (n : Nat) (c : Nat → Nat) (A : Nat → List Nat) (st : Nat → Nat) : List (Nat × Nat) → Prop
  | [] => True
  | (m, k) :: rest => Opened n c A st m k ∧ (∀ (j x : Nat), j < k → (A m)[j]? = some x → st (c x) = 2) ∧ ChainTo n c A st m rest
structure CInv (n : Nat) (c : Nat → Nat) (A : Nat → List Nat) (a : Nat) (st : Nat → Nat) (way : List (Nat × Nat)) (fin : Nat → Nat) (t : Nat) : Prop where
  ok : WayOk n c A st way
  nodup : (way.map (·.1)).Nodup
  opened : ∀ m, st m = 1 → m ∈ way.map (·.1)
  small : ∀ m, st m ≤ 2
  fine : ∀ m, st m = 2 → m < n ∧ (∀ x ∈ A m, st (c x) = 2 ∧ fin (c x) < fin m) ∧ fin m < t
  begun : st (c a) ≠ 0

section
variable {n : Nat} {c : Nat → Nat} {A : Nat → List Nat} {st : Nat → Nat}
theorem ChainTo.mono {st' : Nat → Nat} (way : List (Nat × Nat)) : ∀ {child : Nat}, ChainTo n c A st child way → (∀ m ∈ way.map (·.1), st m = 1 → st' m = 1) → (∀ y, st y = 2 → st' y = 2) → ChainTo n c A st' child way := by
  induction way with
  | nil => intros; trivial
  | cons x way ih =>
    obtain ⟨m, k⟩ := x
    rintro child ⟨h1, h2, h3, h4, h5⟩ hm hd
    exact ⟨⟨hm m (by simp) h1.st, h1.lt, h1.root, h1.le⟩, h2, h3, fun j x hj hx => hd _ (h4 j x hj hx), ih h5 (fun m' hm' => hm m' (by simp at hm' ⊢; exact .inr hm')) hd⟩
/-- Down the way every measure falls. -/
theorem ChainTo.falls (h : Nat → Nat) (hh : ∀ m, m < n → c m = m → ∀ x ∈ A m, h (c x) < h m) (way : List (Nat × Nat)) : ∀ {child : Nat}, ChainTo n c A st child way → ∀ m ∈ way.map (·.1), h child < h m := by
  induction way with
  | nil => intro _ _ m hm; simp at hm
  | cons x way ih =>
    obtain ⟨m, k⟩ := x
    rintro child ⟨h1, h2, ⟨x, hx, hc⟩, h4, h5⟩ m' hm'
    have hlt := hh m h1.lt h1.root x (List.mem_of_getElem? hx)
    rw [hc] at hlt
    simp at hm'
    rcases hm' with rfl | hm'
    · exact hlt
    · have := ih h5 m' (by simpa using hm')
      omega

variable {a : Nat} {fin : Nat → Nat} {t : Nat}
theorem CInv.start (ha : a < n) (hc : ∀ i, i < n → c i < n ∧ c (c i) = c i) : CInv n c A a (updN (fun _ => 0) (c a) 1) [(c a, 0)] (fun _ => 0) 0 := by
  refine ⟨⟨⟨updN_same _ _ _, (hc a ha).1, (hc a ha).2, by omega⟩, by intro j x hj; omega, trivial⟩, by simp, fun m hm => ?_, fun m => ?_, fun m hm => ?_, by rw [updN_same]; decide⟩
  · by_cases e : m = c a
    · simp [e]
    · rw [updN_other _ _ _ _ e] at hm; cases hm
  · unfold updN
    split
    · decide
    · exact Nat.zero_le _
  · unfold updN at hm
    split at hm
    · cases hm
    · cases hm
theorem CInv.skip {m k x : Nat} {rest : List (Nat × Nat)} (h : CInv n c A a st ((m, k) :: rest) fin t) (hx : (A m)[k]? = some x) (hd : st (c x) = 2) : CInv n c A a st ((m, k + 1) :: rest) fin t := by
  obtain ⟨h1, h2, h3⟩ := h.ok
  refine ⟨⟨⟨h1.st, h1.lt, h1.root, (List.getElem?_eq_some_iff.1 hx).1⟩, fun j y hj hy => ?_, h3⟩, h.nodup, h.opened, h.small, h.fine, h.begun⟩
  by_cases e : j = k
  · subst e; rw [hx] at hy; injection hy with hy; subst hy; exact hd
  · exact h2 j y (by omega) hy
theorem CInv.push {m k x : Nat} {rest : List (Nat × Nat)} (h : CInv n c A a st ((m, k) :: rest) fin t) (hx : (A m)[k]? = some x) (hd : st (c x) = 0) (hcx : c x < n ∧ c (c x) = c x) : CInv n c A a (updN st (c x) 1) ((c x, 0) :: (m, k + 1) :: rest) fin t := by
  obtain ⟨h1, h2, h3⟩ := h.ok
  have hne : ∀ y, st y ≠ 0 → y ≠ c x := fun y hy e => hy (by rw [e]; exact hd)
  have hkeep : ∀ y, st y = 2 → updN st (c x) 1 y = 2 := fun y hy => by rw [updN_other _ _ _ _ (hne y (by omega))]; exact hy
  have hkeep1 : ∀ y, st y = 1 → updN st (c x) 1 y = 1 := fun y hy => by rw [updN_other _ _ _ _ (hne y (by omega))]; exact hy
  have hopen := h1.st
  have hnot : ∀ y ∈ ((m, k) :: rest).map (·.1), y ≠ c x := by
    intro y hy e
    have key : ∀ (way : List (Nat × Nat)) (child : Nat), ChainTo n c A st child way → ∀ y ∈ way.map (·.1), st y = 1 := by
      intro way
      induction way with
      | nil => intro _ _ y hy; simp at hy
      | cons z way ih =>
        obtain ⟨m', k'⟩ := z
        rintro child ⟨g1, _, _, _, g5⟩ y hy
        simp at hy
        rcases hy with rfl | hy
        · exact g1.st
        · exact ih _ g5 y (by simpa using hy)
    have : st y = 1 := by
      simp at hy
      rcases hy with rfl | hy
      · exact hopen
      · exact key rest m h3 y (by simpa using hy)
    rw [e, hd] at this; omega
  refine ⟨⟨⟨updN_same _ _ _, hcx.1, hcx.2, by omega⟩, by intro j y hj; omega, ⟨hkeep1 m hopen, h1.lt, h1.root, (List.getElem?_eq_some_iff.1 hx).1⟩, by omega, ⟨x, by simpa using hx, rfl⟩, fun j y hj hy => hkeep _ (h2 j y (by omega) hy), h3.mono rest (fun y _ hy => hkeep1 y hy) hkeep⟩, ?_, fun y hy => ?_, fun y => ?_, fun y hy => ?_, ?_⟩
  · have := h.nodup
    simp only [List.map_cons, List.nodup_cons] at this ⊢
    refine ⟨?_, this⟩
    intro hmem
    exact hnot (c x) (by simpa using hmem) rfl
  · by_cases e : y = c x
    · subst e; simp
    · rw [updN_other _ _ _ _ e] at hy
      have := h.opened y hy
      simp only [List.map_cons] at this ⊢
      exact List.mem_cons_of_mem _ this
  · unfold updN; split
    · omega
    · exact h.small y
  · by_cases e : y = c x
    · subst e; rw [updN_same] at hy; omega
    · rw [updN_other _ _ _ _ e] at hy
      obtain ⟨f1, f2, f3⟩ := h.fine y hy
      exact ⟨f1, fun z hz => ⟨hkeep _ (f2 z hz).1, (f2 z hz).2⟩, f3⟩
  · by_cases e : c a = c x
    · rw [e, updN_same]; decide
    · rw [updN_other _ _ _ _ e]; exact h.begun
theorem CInv.pop {m k : Nat} {rest : List (Nat × Nat)} (h : CInv n c A a st ((m, k) :: rest) fin t) (hk : k = (A m).length) : CInv n c A a (updN st m 2) rest (updN fin m t) (t + 1) := by
  obtain ⟨h1, h2, h3⟩ := h.ok
  have hnd := h.nodup
  simp only [List.map_cons, List.nodup_cons] at hnd
  have hkeep : ∀ y, st y = 2 → updN st m 2 y = 2 := fun y hy => by unfold updN; split; rfl; exact hy
  have hrest1 : ∀ y ∈ rest.map (·.1), st y = 1 → updN st m 2 y = 1 := fun y hy h1' => by rw [updN_other _ _ _ _ (by rintro rfl; exact hnd.1 hy)]; exact h1'
  have hfinal : ∀ x ∈ A m, st (c x) = 2 := by
    intro x hx
    obtain ⟨j, hj, hx'⟩ := List.mem_iff_getElem?.1 hx |>.elim fun j hj => (⟨j, (List.getElem?_eq_some_iff.1 hj).1, hj⟩ : ∃ j, j < (A m).length ∧ (A m)[j]? = some x)
    exact h2 j x (by omega) hx'
  refine ⟨?_, hnd.2, fun y hy => ?_, fun y => ?_, fun y hy => ?_, ?_⟩
  · rcases rest with _ | ⟨⟨m1, k1⟩, r⟩
    · trivial
    · obtain ⟨g1, g2, ⟨x, hx, hc⟩, g4, g5⟩ := h3
      refine ⟨⟨hrest1 m1 (by simp) g1.st, g1.lt, g1.root, g1.le⟩, fun j y hj hy => ?_, g5.mono r (fun y hy => hrest1 y (by simp at hy ⊢; exact .inr hy)) hkeep⟩
      by_cases e : j + 1 = k1
      · subst e
        simp at hx
        rw [hx] at hy; injection hy with hy; subst hy
        rw [hc, updN_same]
      · exact hkeep _ (g4 j y (by omega) hy)
  · by_cases e : y = m
    · subst e; rw [updN_same] at hy; omega
    · rw [updN_other _ _ _ _ e] at hy
      have := h.opened y hy
      simp only [List.map_cons, List.mem_cons] at this
      exact this.resolve_left e
  · unfold updN; split
    · omega
    · exact h.small y
  · by_cases e : y = m
    · subst e
      refine ⟨h1.lt, fun x hx => ⟨hkeep _ (hfinal x hx), ?_⟩, by rw [updN_same]; omega⟩
      have h2' := hfinal x hx
      have hne : c x ≠ y := fun e => by rw [e, h1.st] at h2'; omega
      rw [updN_same, updN_other _ _ _ _ hne]
      exact (h.fine _ h2').2.2
    · rw [updN_other _ _ _ _ e] at hy
      obtain ⟨f1, f2, f3⟩ := h.fine y hy
      refine ⟨f1, fun x hx => ⟨hkeep _ (f2 x hx).1, ?_⟩, by rw [updN_other _ _ _ _ e]; omega⟩
      have hne : c x ≠ m := fun e' => by have := (f2 x hx).1; rw [e', h1.st] at this; omega
      rw [updN_other _ _ _ _ hne, updN_other _ _ _ _ e]; exact (f2 x hx).2
  · by_cases e : c a = m
    · rw [e, updN_same]; decide
    · rw [updN_other _ _ _ _ e]; exact h.begun
/-- An argument that is open: there is a cycle. -/
theorem CInv.cycle {m k x : Nat} {rest : List (Nat × Nat)} (h : CInv n c A a st ((m, k) :: rest) fin t) (hx : (A m)[k]? = some x) (hd : st (c x) = 1) (g : Nat → Nat) (hg : ∀ m, m < n → c m = m → ∀ x ∈ A m, g (c x) < g m) : False := by
  obtain ⟨h1, h2, h3⟩ := h.ok
  have hlt := hg m h1.lt h1.root x (List.mem_of_getElem? hx)
  have hm := h.opened _ hd
  simp only [List.map_cons, List.mem_cons] at hm
  rcases hm with e | hm
  · rw [e] at hlt; omega
  · have := h3.falls g hg rest _ hm
    omega
end

/-- What a search without a find tells. -/
structure Searched (N : List Nd) (c : Nat → Nat) (A : Nat → List Nat) (a : Nat) (st fin : Nat → Nat) (t : Nat) : Prop where
  fine : ∀ m, st m = 2 → m < N.length ∧ (∀ x ∈ A m, st (c x) = 2 ∧ fin (c x) < fin m) ∧ fin m < t
  at_ : st (c a) = 2
theorem CInv.searched {N : List Nd} {c : Nat → Nat} {A : Nat → List Nat} {a : Nat} {st fin : Nat → Nat} {t : Nat} (h : CInv N.length c A a st [] fin t) : Searched N c A a st fin t := by
  refine ⟨h.fine, ?_⟩
  have h1 := h.small (c a)
  have h2 := h.begun
  have h3 : st (c a) ≠ 1 := fun e => by have := h.opened _ e; simp at this
  omega
/-- A class's form has the arguments of all its nodes. -/
theorem Searched.acyc {N : List Nd} {c0 c : Nat → Nat} {A F : Nat → Nat} {As : Nat → List Nat} {a b : Nat} {st fin : Nat → Nat} {t : Nat} (h : Searched N c As a st fin t) (hw : Wf N) (h0 : Acyc N c0) (hm : MInv N c0 a b c []) (ha : a < N.length) (hb : b < N.length)
    (hF : ∀ i, i < N.length → Form N c (c i) (F (c i))) (hA : ∀ i p, i < N.length → N[F (c i)]? = some p → As (c i) = p.args) : Acyc N c := by
  have hl := hm.done
  have key : ∀ (i : Nat) (p : Nd), N[i]? = some p → st (c i) = 2 → ∀ x ∈ p.args, st (c x) = 2 ∧ fin (c x) < fin (c i) := by
    intro i p hp hi x hx
    have hil := (List.getElem?_eq_some_iff.1 hp).1
    have Fi := hF i hil
    obtain ⟨q, hq⟩ : ∃ q, N[F (c i)]? = some q := ⟨_, List.getElem?_eq_getElem Fi.lt⟩
    have hpk : p.kind ≠ 1 := fun e => by rw [(hw i p hp).2 e] at hx; simp at hx
    have hqk := Fi.head i p q hp rfl hpk hq
    obtain ⟨e1, e2⟩ := hl.good.closed i (F (c i)) p q hp hq Fi.cls.symm hpk hqk
    obtain ⟨j, hj⟩ := List.mem_iff_getElem?.1 hx
    have hjl := (List.getElem?_eq_some_iff.1 hj).1
    have hy : q.args[j]? = some (q.args[j]'(by have := e1.2.2; omega)) := List.getElem?_eq_getElem _
    have hc := e2 j x _ hj hy
    have := (h.fine _ hi).2.1 _ (by rw [hA i q hil hq]; exact List.mem_of_getElem? hy)
    rwa [← hc] at this
  have hab : c a = c b := hl.good.ab
  refine acyc_after hw h0 hm (fun i => st (c i) = 2) ⟨fun i j _ _ e hi => by show st (c j) = 2; rw [← e]; exact hi, fun i p hp hi x hx => (key i p hp hi x hx).1⟩ h.at_ (by show st (c b) = 2; rw [← hab]; exact h.at_)
    (fun i => if st (c i) = 2 then fin (c i) else 0) (t + 1) (fun i j _ _ e => by simp only [e]) (fun i => ?_) (fun i p hp hi x hx => ?_)
  · show (if st (c i) = 2 then fin (c i) else 0) < t + 1
    split
    · rename_i e; have := (h.fine _ e).2.2; omega
    · omega
  · obtain ⟨k1, k2⟩ := key i p hp hi x hx
    show (if st (c x) = 2 then fin (c x) else 0) < (if st (c i) = 2 then fin (c i) else 0)
    rw [if_pos k1, if_pos hi]; exact k2
theorem Acyc.measure {N : List Nd} {c F : Nat → Nat} {As : Nat → List Nat} (h : Acyc N c) (hw : Wf N) (hF : ∀ i, i < N.length → Form N c (c i) (F (c i))) (hA : ∀ i p, i < N.length → N[F (c i)]? = some p → As (c i) = p.args) (hc : ∀ i, i < N.length → c i < N.length ∧ c (c i) = c i) :
    ∃ g : Nat → Nat, ∀ m, m < N.length → c m = m → ∀ x ∈ As m, g (c x) < g m := by
  obtain ⟨g, g1, g2⟩ := h
  refine ⟨g, fun m hm cm x hx => ?_⟩
  have Fm := hF m hm
  rw [cm] at Fm
  obtain ⟨q, hq⟩ : ∃ q, N[F m]? = some q := ⟨_, List.getElem?_eq_getElem Fm.lt⟩
  have hAm := hA m q hm (by rw [cm]; exact hq)
  rw [cm] at hAm
  rw [hAm] at hx
  have hxl : x < N.length := by
    have := (hw _ q hq).1 x hx
    have := Fm.lt; omega
  have e1 := g1 (c x) x (hc x hxl).1 hxl (hc x hxl).2
  have e2 := g1 (F m) m Fm.lt hm (Fm.cls.trans cm.symm)
  have := g2 (F m) q hq x hx
  omega
end Go.Proofs.Ytafpbdmggnfdnaa

/- A map from int to int that the call has made: which number stands for which. -/
namespace Go.Proofs.Ytafpbdmggnfdnaa
open Go.RowKit Go.Maps
set_option linter.unusedVariables false

/-- Block b is a map of at most n entries; at a number below 2 ^ 62 it has f. -/
def MapIs (w : World) (b n : Nat) (f : Nat → Nat) : Prop :=
  ∃ D : DataW Unit, w.ownsMap Try.prog 3 (plainElem Try.prog 3) b n D ∧ ∀ k : Nat, k < 4611686018427387904 → D.atKey (.int .i64 (k : Int)) (.lit (.int .i64 0)) = .lit (.int .i64 (f k : Int))
theorem zeroInt (w : World) : (zeroValue 3).run Try.prog w = .ok (.int .i64 0) w := by kernel_rfl
theorem int_wf (k : Nat) (h : k < 4611686018427387904) : (Lit.int .i64 (k : Int)).wf = true := WalkArith.wf_i64 (by omega)
theorem MapIs.lt {w : World} {b n : Nat} {f : Nat → Nat} (h : MapIs w b n f) : b < w.heap.size := by
  obtain ⟨D, ⟨es, clock, hb, _⟩, _⟩ := h
  exact (Array.getElem?_eq_some_iff.1 hb).1
theorem MapIs.keep {w w' : World} {b n : Nat} {f : Nat → Nat} (h : MapIs w b n f) (hk : w'.heap[b]? = w.heap[b]?) : MapIs w' b n f := by
  obtain ⟨D, ⟨es, clock, hb, h2⟩, h3⟩ := h
  exact ⟨D, ⟨es, clock, hk.trans hb, h2⟩, h3⟩
theorem MapIs.new (w : World) : MapIs (w.alloc (.map #[] 0)) w.heap.size 0 (fun _ => 0) := by
  refine ⟨_, World.ownsMap_made _ _ _ _, fun k hk => ?_⟩
  rfl
theorem wpList_map_set {w : World} {ops : Array Oper} {rest : List Oper} {o : Oper} {a : Act} {Q : Exit → Act → World → Prop} (hg : o.guard = none) (m x v : Operand) (hop : o.op = Op.mapUpdate 76 m x v) (b n : Nat) (f : Nat → Nat)
    (hm : a.eval m = .map (some b)) (h : MapIs w b n f) (hn : n < 1000000000) (key val : Nat) (hx : a.eval x = .int .i64 (key : Int)) (hv : a.eval v = .int .i64 (val : Int)) (hk : key < 4611686018427387904) (hvl : val < 4611686018427387904)
    (hK : ∀ w', MapIs w' b (n + 1) (updN f key val) → w.grownBy w' (some b) → wpList Try.prog ops Q rest (a.put o.dst undef) w') : wpList Try.prog ops Q (o :: rest) a w := by
  obtain ⟨D, hown, hat⟩ := h
  have hD : IsMap D := by obtain ⟨es, clock, _, _, _, e⟩ := hown; rw [e]; exact ⟨_, rfl⟩
  refine wpList_mapUpdate_own w hg m x v 76 hop 3 3 (int_keyed Try.underlying3) Try.underlying76 (plainElem Try.prog 3) b n D hm hown (by unfold maxLen; omega) _ _ (.int .i64 (key : Int)) hx hv (keyOf_int_mk Try.underlying3 (int_wf key hk)) (.lit (.int .i64 (val : Int))) [] (plainElem_int Try.underlying3 (int_wf val hvl)) (fun w' hown' hgrow => hK w' ⟨_, hown', fun k hkk => ?_⟩ hgrow)
  by_cases e : k = key
  · subst e
    rw [updN_same, atKey_put_same hD (by simp [WideAt.IsKeyLit])]
  · rw [updN_other _ _ _ _ e, atKey_put_other (by intro e'; injection e' with _ e'; exact e (by omega))]
    exact hat k hkk
theorem wpList_map_get {w : World} {ops : Array Oper} {rest : List Oper} {o : Oper} {a : Act} {Q : Exit → Act → World → Prop} (hg : o.guard = none) (m x : Operand) (hop : o.op = Op.lookup 76 m x false) (b n : Nat) (f : Nat → Nat)
    (hm : a.eval m = .map (some b)) (h : MapIs w b n f) (key : Nat) (hx : a.eval x = .int .i64 (key : Int)) (hk : key < 4611686018427387904)
    (hK : wpList Try.prog ops Q rest (a.put o.dst (.int .i64 (f key : Int))) w) : wpList Try.prog ops Q (o :: rest) a w := by
  obtain ⟨D, hown, hat⟩ := h
  refine wpList_lookup_own_int w hg m x 76 hop 3 3 .i64 (int_keyed Try.underlying3) Try.underlying76 Try.underlying3 (zeroInt w) b n D hm hown _ (.int .i64 (key : Int)) hx (keyOf_int_mk Try.underlying3 (int_wf key hk)) (fun c hc _ => ?_)
  rw [hat key hk] at hc
  injection hc with hc
  injection hc with _ hc
  rw [← hc]; exact hK
end Go.Proofs.Ytafpbdmggnfdnaa

/- The program's store: cyclic. -/
namespace Go.Proofs.Ytafpbdmggnfdnaa
open Go.RowKit Go.Maps
set_option linter.unusedVariables false

def wayCells (l : List (Nat × Nat)) : List Value := pairCells l.reverse
theorem wayCells_cons (m k : Nat) (l : List (Nat × Nat)) : wayCells ((m, k) :: l) = wayCells l ++ [.int .i64 (m : Int), .int .i64 (k : Int)] := by
  unfold wayCells; rw [List.reverse_cons, pairCells_snoc]
theorem wayCells_length (l : List (Nat × Nat)) : (wayCells l).length = l.length * 2 := by unfold wayCells; rw [pairCells_length, List.length_reverse]
theorem placeInfo : (Try.prog.info? 114).map (fun i => (i.zero, i.size, i.bytes)) = some (some (.agg #[.int .i64 0, .int .i64 0]), 2, 16) := by kernel_rfl
def argsOf (S : PS) (m : Nat) : List Nat := (S.nodes[par S.forms m]?.map (·.args)).getD []
/-- What is still to be looked at. -/
def leftOf (A : Nat → List Nat) : List (Nat × Nat) → Nat
  | [] => 0
  | (m, k) :: r => (A m).length - k + 1 + leftOf A r
structure YRel (w : World) (base : Nat) (L : Lay) (S : PS) (c : Nat → Nat) (a B : Nat) (vw : Value) (st : Nat → Nat) (way : List (Nat × Nat)) (fin : Nat → Nat) (t : Nat) (wr : World) : Prop where
  below : Below w.heap.size w wr
  map : ∃ e, MapIs wr B e st ∧ e + (2 * zeros st S.nodes.length + way.length) ≤ 2 * S.nodes.length
  own : wr.ownsRow w.heap.size 114 2 vw way.length (wayCells way)
  inv : CInv S.nodes.length c (argsOf S) a st way fin t
  low : w.heap.size ≤ B
def CyclicPost (w : World) (S : PS) (c : Nat → Nat) (a : Nat) (e : Ending) (w' : World) : Prop :=
  Below w.heap.size w w' ∧ ((e = .returned (.bool true) ∧ ¬ Acyc S.nodes c) ∨ (e = .returned (.bool false) ∧ ∃ st fin t, Searched S.nodes c (argsOf S) a st fin t))

theorem zeros_all (n : Nat) : zeros (fun _ => 0) n = n := by
  induction n with
  | zero => rfl
  | succ n ih => unfold zeros; rw [ih, if_pos rfl]
theorem way_top {w : World} {base n : Nat} {e : TypeId} {v : Value} {l : List (Nat × Nat)} {m k g cap z : Nat} (h : w.ownsRow base e 2 v n (wayCells ((m, k) :: l))) (hv : v = .slice (some ⟨g, 0, none⟩) z cap) :
    w.cell? ⟨g, l.length * 2, none⟩ = some (.int .i64 (m : Int)) ∧ w.cell? ⟨g, l.length * 2 + 1, none⟩ = some (.int .i64 (k : Int)) := by
  unfold wayCells at h
  rw [List.reverse_cons] at h
  have := pair_top h hv
  rwa [List.length_reverse] at this
theorem way_set (l : List (Nat × Nat)) (m k k' : Nat) : (wayCells ((m, k) :: l)).set (l.length * 2 + 1) (.int .i64 (k' : Int)) = wayCells ((m, k') :: l) := by
  rw [wayCells_cons, wayCells_cons, List.set_append_right _ _ (by rw [wayCells_length]; omega), wayCells_length]
  simp
theorem own_frozen {w : World} {base n : Nat} {e : TypeId} {size : Nat} {xs : List Value} {g cap : Nat} (h : w.ownsRow base e size (.slice (some ⟨g, 0, none⟩) n cap) n xs) (j : Nat) : w.frozen? ⟨g, j, none⟩ = false := h.frozenAt j
theorem zeros_done {st : Nat → Nat} {m n v : Nat} (h : st m = 1) : zeros (updN st m (v + 1)) n = zeros st n := zeros_congr _ st n fun i _ => by
  by_cases e : i = m
  · subst e; rw [updN_same]; omega
  · rw [updN_other _ _ _ _ e]
theorem leftOf_cons (A : Nat → List Nat) (m k : Nat) (r : List (Nat × Nat)) : leftOf A ((m, k) :: r) = (A m).length - k + 1 + leftOf A r := rfl
set_option maxRecDepth 100000 in
set_option maxHeartbeats 4000000 in
theorem cyclic_any {w : World} {base : Nat} {L : Lay} {S : PS} {c d : Nat → Nat} (h : St w base L S) (hi : PInv S c d) (a : Nat) (ha : a < S.nodes.length) :
    Calls Try.prog 49 #[.pointer (some ⟨L.g, 0, none⟩), .int .i64 (a : Int)] w (CyclicPost w S c a) := by
  obtain ⟨i2, ki, kz0, kz1, kz2⟩ := info_parts placeInfo
  have Ki := hide ki; have Kz0 := hide kz0; have Kz1 := hide kz1; have Kz2 := hide kz2
  clear ki kz0 kz1 kz2
  have hmm := @run_makeMap Try.prog
  have hm := h.many
  have hra := hi.root a ha
  have HF := hide (fun W (hW : St W base L S) (i : Nat) (hi' : i < S.nodes.length) => find_any hW hi.forest i hi')
  have HH := hide h
  have HI := hide hi
  obtain ⟨r, hr⟩ : ∃ r, c a = r := ⟨_, rfl⟩
  rw [hr] at hra
  have hrn := hra.1
  have Hr := hide hr
  have M0 := hide (MapIs.new w)
  clear h hi hr
  have hb0 : Below w.heap.size w (w.alloc (.map #[] 0)) := (Below.refl _ _).alloc (Nat.le_refl _) _
  go_enter Try.func49, Try.ntmps49
  go_wp2_with fail
  refine (HF.out _ (HH.out.later hb0) a ha).mono ?_
  rintro e w1 ⟨rfl, rfl⟩
  rw [Hr.out]
  go_upto_region 4 with (at_mapUpdate; refine wpList_map_set rfl (.tmp 14) (.tmp 15) (.const (.int .i64 1)) rfl w.heap.size 0 (fun _ => 0) rfl M0.out (by decide) r 1 rfl rfl (by omega) (by decide) ?_; intro w1 M1 hg1)
  have hbw1 : Below w.heap.size w w1 := hb0.grown hg1 (by simp) (fun k e => by injection e with e; omega)
  have hz1 : w.heap.size + 1 ≤ w1.heap.size := by have := hg1.size; simpa using this
  have hb2 : Below w.heap.size w (w1.alloc (.cells #[.int .i64 (r : Int), .int .i64 0] 114)) := hbw1.alloc hbw1.size _
  have HR : Hid (YRel w base L S c a w.heap.size (.slice (some ⟨w1.heap.size, 0, none⟩) 1 1) (updN (fun _ => 0) r 1) [(r, 0)] (fun _ => 0) 0 (w1.alloc (.cells #[.int .i64 (r : Int), .int .i64 0] 114))) := by
    refine hide ⟨hb2, ⟨1, M1.keep (Below.heap_alloc w1 _ _ (by omega)), ?_⟩, ?_, ?_, Nat.le_refl _⟩
    · have := zeros_set (fun _ => 0) r 1 S.nodes.length hrn rfl (by decide)
      rw [zeros_all] at this
      simp only [List.length_singleton]; omega
    · exact World.ownsRow_lit w1 #[.int .i64 (r : Int), .int .i64 0] 1 hbw1.size (by simp [maxLen]) rfl
    · have := CInv.start (n := S.nodes.length) (c := c) (A := argsOf S) (a := a) ha (fun i hi => ⟨(HI.out.root i hi).1, (HI.out.root i hi).2.2⟩)
      rw [Hr.out] at this; exact this
  clear hbw1 hb2 hg1 M1 hb0 M0 hmm hra
  go_wp2
  go_loopg [6] (zeros (updN (fun _ => 0) r 1) S.nodes.length * 1000002 + leftOf (argsOf S) [(r, 0)]) (fun gg vw wr => ∃ (st : Nat → Nat) (way : List (Nat × Nat)) (fin : Nat → Nat) (t : Nat), gg = zeros st S.nodes.length * 1000002 + leftOf (argsOf S) way ∧ YRel w base L S c a w.heap.size vw st way fin t wr)
  case atStart => exact ⟨_, _, _, _, rfl, HR.out⟩
  case round =>
    obtain ⟨st, way, fin, t, hk, R⟩ := hrel
    clear HR
    have Hk := hide hk; clear hk
    rcases way with _ | ⟨⟨m, k⟩, rest⟩
    · obtain ⟨A, cap, rfl, -, -⟩ := own_len R.own
      go_wp2
      go_ret
      exact ⟨R.below, .inr ⟨rfl, st, fin, t, R.inv.searched⟩⟩
    · have hown := R.own
      obtain ⟨g, cap, rfl, hcap⟩ := own_pos hown (by simp)
      obtain ⟨t0, t1⟩ := way_top hown rfl
      have hgl := (hown.lt g rfl).2
      have hgb := (hown.lt g rfl).1
      have hpop := hide (own_pop hown)
      rw [wayCells_cons, List.take_left' (wayCells_length rest)] at hpop
      obtain ⟨e, hmap, he⟩ := R.map
      have hmn := R.inv.ok.1
      have hlm := hmn.lt; have hrm := hmn.root; have hkl := hmn.le
      simp only [List.length_cons] at hown hcap he ⊢ t0 t1
      have hrl : rest.length ≤ 2000000 := by omega
      have hel : e ≤ 2000000 := by omega
      have hst := hide (HH.out.later R.below)
      have Fm := HI.out.forms m hlm hrm
      obtain ⟨P, hP⟩ : ∃ P, S.nodes[par S.forms m]? = some P := ⟨_, List.getElem?_eq_getElem Fm.lt⟩
      have hAm : argsOf S m = P.args := by unfold argsOf; rw [hP]; rfl
      have hPl := HH.out.few _ _ hP
      have HFm := hide (form_any hst.out HI.out.forest m hlm P (by rw [hrm]; exact hP))
      rw [hrm] at HFm
      rw [hAm] at hkl
      have HP := hide hP; have HAm := hide hAm; have HR := hide R; have Hown := hide hown; have Hmap := hide hmap
      clear hP hAm hmn R hown hrm Fm hmap
      have fl := nd_args
      go_wp2_with fail
      refine HFm.out.mono ?_
      rintro e' W1 ⟨ax, hax, rfl, hb1⟩
      have T0 : W1.cell? ⟨g, rest.length * 2, none⟩ = some (.int .i64 (m : Int)) := (hb1.cell (p := ⟨g, rest.length * 2, none⟩) hgl).trans t0
      have T1 : W1.cell? ⟨g, rest.length * 2 + 1, none⟩ = some (.int .i64 (k : Int)) := (hb1.cell (p := ⟨g, rest.length * 2 + 1, none⟩) hgl).trans t1
      have hbw : Below w.heap.size w W1 := HR.out.below.trans (hb1.mono HR.out.below.size)
      have Hst1 := hide (HH.out.later hbw)
      have Hbw := hide hbw
      have Hmap1 := hide (Hmap.out.keep (hb1.block _ Hmap.out.lt))
      have hown1 := own_keep Hown.out (fun b hb => hb1.block b (Hown.out.lt b hb).2)
      have Hown1 := hide hown1
      have Hpop1 := hide (own_keep hpop.out (fun b hb => hb1.block b (hpop.out.lt b hb).2))
      have hz : w.heap.size ≤ W1.heap.size := hbw.size
      have hg1 : g < W1.heap.size := Nat.lt_of_lt_of_le hgl hb1.size
      have hfz : W1.frozen? ⟨g, rest.length * 2 + 1, none⟩ = false := own_frozen hown1 _
      have Hax := hide hax
      clear t0 t1 hb1 hbw hown1 hax HFm hst Hmap Hown hpop
      by_cases hkk : k = P.args.length
      · subst hkk
        have k40 : ((P.args.length : Int) == (P.args.length : Int)) = true := by simp
        have hsl2 := fun W => run_slice_h (P := Try.prog) W 115 (some ⟨g, 0, none⟩) (rest.length + 1) cap Try.underlying115 .i64 ((rest.length : Int)) (by omega) (by omega)
        go_wp2_with (at_mapUpdate; refine wpList_map_set rfl (.tmp 41) (.tmp 45) (.const (.int .i64 2)) rfl w.heap.size e st rfl Hmap1.out (by omega) m 2 rfl rfl (by omega) (by decide) ?_; intro W2 M2 hg2)
        have hne : g ≠ w.heap.size := by
          intro e1
          obtain ⟨D, ⟨es, clock, hbb, _⟩, _⟩ := Hmap1.out
          rcases Hown1.out.2 with ⟨q1, _⟩ | ⟨g', _, _, q1, _, q3, _⟩
          · cases q1
          · injection q1 with q1; injection q1 with q1; injection q1 with q1; subst q1
            rw [e1, hbb] at q3; cases q3
        go_roundg (zeros (updN st m 2) S.nodes.length * 1000002 + leftOf (argsOf S) rest)
        case measure =>
          rw [Hk.out, zeros_done HR.out.inv.ok.1.st, leftOf_cons]; omega
        case rel =>
          refine ⟨updN st m 2, rest, updN fin m t, t + 1, rfl, Hbw.out.grown hg2 hz (fun j e1 => by injection e1 with e1; omega), ⟨e + 1, M2, ?_⟩, own_keep Hpop1.out (fun b hb => hg2.block b (Hpop1.out.lt b hb).2 ?_), HR.out.inv.pop (by rw [HAm.out]), Nat.le_refl _⟩
          · rw [zeros_done HR.out.inv.ok.1.st]; omega
          · have hb' : g = b := by simpa [Value.ownBlock] using hb
            intro e1; injection e1 with e1; omega
      · have k40 : ((k : Int) == (P.args.length : Int)) = false := by simp; omega
        have hklt : k < P.args.length := by omega
        obtain ⟨b1, o1, hb1, -, c1⟩ := (Hst1.out.args (par S.forms m) P ax HP.out Hax.out).1.at_ k (by simpa [cast] using hklt)
        simp only [cast, List.getElem_map] at c1
        obtain ⟨x, hx⟩ : ∃ x, P.args[k] = x := ⟨_, rfl⟩
        rw [hx] at c1
        have hxk : (argsOf S m)[k]? = some x := by rw [HAm.out, List.getElem?_eq_getElem hklt, hx]
        have hxn : x < S.nodes.length := HI.out.wf.arg_lt HP.out (k := k) (by rw [List.getElem?_eq_getElem hklt, hx])
        have hcx := HI.out.root x hxn
        have Hxk := hide hxk
        obtain ⟨y, hy⟩ : ∃ y, c x = y := ⟨_, rfl⟩
        have Hy := hide hy
        rw [hy] at hcx
        have hyn := hcx.1
        have Hcx := hide hcx
        have HB1 := hide hb1
        simp only [hb1]
        clear hx hxk hcx hy
        have hxy : y ≠ g ∨ True := .inr trivial
        go_wp2_with fail
        refine (HF.out W1 Hst1.out x hxn).mono ?_
        rintro e' W2 ⟨rfl, rfl⟩
        rw [Hy.out]
        clear hxy
        go_upto_region 13 with fail
        have hne : g ≠ w.heap.size := by
          intro e1
          obtain ⟨D, ⟨es, clock, hbb, _⟩, _⟩ := Hmap1.out
          rcases Hown1.out.2 with ⟨q1, _⟩ | ⟨g', _, _, q1, _, q3, _⟩
          · cases q1
          · injection q1 with q1; injection q1 with q1; injection q1 with q1; subst q1
            rw [e1, hbb] at q3; cases q3
        obtain ⟨W3, hW3⟩ : ∃ W3, W1.setCell ⟨g, rest.length * 2 + 1, none⟩ (.int .i64 ((k : Int) + 1)) = W3 := ⟨_, rfl⟩
        have hb3 : Below w.heap.size w W3 := by rw [← hW3]; exact Hbw.out.setCell (p := ⟨g, rest.length * 2 + 1, none⟩) hgb _
        have M3 : Hid (MapIs W3 w.heap.size e st) := hide (by rw [← hW3]; exact Hmap1.out.keep (Below.heap_setCell W1 ⟨g, rest.length * 2 + 1, none⟩ _ _ (fun e1 => hne e1.symm)))
        have own3 : Hid (W3.ownsRow w.heap.size 114 2 (.slice (some ⟨g, 0, none⟩) (rest.length + 1) cap) (rest.length + 1) (wayCells ((m, k + 1) :: rest))) := hide (by
          rw [← hW3, ← way_set rest m k (k + 1)]; exact (Hown1.out.stored (rest.length * 2 + 1) (.int .i64 ((k : Int) + 1))).1)
        have Hb3 := hide hb3
        have hz3 : w.heap.size ≤ W3.heap.size := hb3.size
        simp only [hW3]
        clear hW3 hb3 T0 T1 hfz Hmap1 Hown1 Hpop1 Hst1 Hbw c1
        have hsm := HR.out.inv.small y
        rcases (show st y = 1 ∨ st y = 2 ∨ st y = 0 by omega) with hs | hs | hs
        · have k70 : ((st y : Int) == 1) = true := by simp; omega
          have Hs := hide hs; clear hs
          go_wp2_with (at_lookup; refine wpList_map_get rfl (.tmp 67) (.tmp 68) rfl w.heap.size e st rfl M3.out y rfl (by omega) ?_)
          go_ret
          refine ⟨Hb3.out, .inl ⟨rfl, fun hac => ?_⟩⟩
          obtain ⟨q, hq⟩ := hac.measure (F := par S.forms) (As := argsOf S) HI.out.wf (fun i hi => HI.out.forms (c i) (HI.out.root i hi).1 (HI.out.root i hi).2.2) (fun i p _ hp => by unfold argsOf; rw [hp]; rfl) (fun i hi => ⟨(HI.out.root i hi).1, (HI.out.root i hi).2.2⟩)
          exact HR.out.inv.cycle Hxk.out (by rw [Hy.out]; exact Hs.out) q hq
        · have k70 : ((st y : Int) == 1) = false := by simp; omega
          have k74 : ((st y : Int) == 0) = false := by simp; omega
          have Hs := hide hs; clear hs
          go_wp2_with (first | (at_lookup; refine wpList_map_get rfl (.tmp 67) (.tmp 68) rfl w.heap.size e st rfl M3.out y rfl (by omega) ?_) | (at_lookup; refine wpList_map_get rfl (.tmp 71) (.tmp 72) rfl w.heap.size e st rfl M3.out y rfl (by omega) ?_))
          go_roundg (zeros st S.nodes.length * 1000002 + leftOf (argsOf S) ((m, k + 1) :: rest))
          case measure => rw [Hk.out, leftOf_cons, leftOf_cons, HAm.out]; omega
          case rel => exact ⟨st, (m, k + 1) :: rest, fin, t, rfl, Hb3.out, ⟨e, M3.out, he⟩, own3.out, HR.out.inv.skip Hxk.out (by rw [Hy.out]; exact Hs.out), Nat.le_refl _⟩
        · have k70 : ((st y : Int) == 1) = false := by simp; omega
          have k74 : ((st y : Int) == 0) = true := by simp; omega
          have hze := zeros_set st y 1 S.nodes.length hyn hs (by decide)
          have Hze := hide hze
          have Hs := hide hs; clear hs hze
          go_upto_region 17 with (first | (at_lookup; refine wpList_map_get rfl (.tmp 67) (.tmp 68) rfl w.heap.size e st rfl M3.out y rfl (by omega) ?_) | (at_lookup; refine wpList_map_get rfl (.tmp 71) (.tmp 72) rfl w.heap.size e st rfl M3.out y rfl (by omega) ?_) | (at_mapUpdate; refine wpList_map_set rfl (.tmp 75) (.tmp 76) (.const (.int .i64 1)) rfl w.heap.size e st rfl M3.out (by omega) y 1 rfl rfl (by omega) (by decide) ?_; intro W4 M4 hg4))
          have hb4 : Below w.heap.size w W4 := Hb3.out.grown hg4 hz3 (fun j e1 => by injection e1 with e1; omega)
          have own4 := own_keep own3.out (fun b hb => hg4.block b (own3.out.lt b hb).2 (by
            have hb' : g = b := by simpa [Value.ownBlock] using hb
            intro e1; injection e1 with e1; omega))
          have O5 := hide (own4.alloc (.cells #[.int .i64 (y : Int), .int .i64 0] 114))
          have N5 := hide (two_new W4 (.int .i64 (y : Int)) (.int .i64 0) 114)
          have E5 : Hid (∀ u ∈ [Value.int .i64 (y : Int), .int .i64 0], u.oneCell' = true) := hide (by simp [Value.oneCell'])
          have Hb5 := hide (hb4.alloc hb4.size (.cells #[.int .i64 (y : Int), .int .i64 0] 114))
          have M5 := hide (M4.keep (Below.heap_alloc W4 (.cells #[.int .i64 (y : Int), .int .i64 0] 114) _ M4.lt))
          have hz4 : w.heap.size ≤ W4.heap.size := hb4.size
          clear hb4 own4 M4 hg4 k70 k74
          go_wp2_with (at_builtin; refine wpList_append_own _ rfl (.tmp 77) (.tmp 80) 115 rfl w.heap.size 114 i2 (.agg #[.int .i64 0, .int .i64 0]) 2 16 Try.underlying115 Ki.out Kz0.out Kz1.out Kz2.out rfl (by decide) (.slice (some ⟨g, 0, none⟩) (rest.length + 1) cap) (rest.length + 1) (wayCells ((m, k + 1) :: rest)) rfl O5.out ⟨W4.heap.size, 0, none⟩ 1 1 [.int .i64 (y : Int), .int .i64 0] rfl rfl N5.out E5.out (by simp only [maxLen]; omega) (by omega) (by simp; omega) ?_; intro v6 W6 own6 grow6 nil6; clear nil6)
          go_roundg (zeros (updN st y 1) S.nodes.length * 1000002 + leftOf (argsOf S) ((y, 0) :: (m, k + 1) :: rest))
          case measure =>
            have hly : (argsOf S y).length ≤ 1000000 := by
              unfold argsOf
              cases hq : S.nodes[par S.forms y]? with
              | none => simp
              | some q => simpa using HH.out.few _ q hq
            have := Hze.out
            rw [Hk.out, leftOf_cons, leftOf_cons, leftOf_cons, HAm.out]; omega
          case rel =>
            have hI := HR.out.inv.push Hxk.out (by rw [Hy.out]; exact Hs.out) (by rw [Hy.out]; exact ⟨Hcx.out.1, Hcx.out.2.2⟩)
            rw [Hy.out] at hI
            have hgj : ∀ j, (Value.slice (some ⟨g, 0, none⟩) (rest.length + 1) cap).ownBlock = some j → w.heap.size ≤ j := by
              intro j e1
              have : g = j := by simpa [Value.ownBlock] using e1
              omega
            refine ⟨updN st y 1, (y, 0) :: (m, k + 1) :: rest, fin, t, rfl, Hb5.out.grown grow6 (by simp; omega) (fun j e1 => hgj j e1), ⟨e + 1, M5.out.keep (grow6.block _ M5.out.lt (by simp [Value.ownBlock]; exact fun e1 => hne e1.symm)), ?_⟩, ?_, hI, Nat.le_refl _⟩
            · have := Hze.out; simp only [List.length_cons]; omega
            · rw [wayCells_cons]; simp only [List.length_cons]; exact own6
end Go.Proofs.Ytafpbdmggnfdnaa

/- The program's store: Unify, Alike. -/
namespace Go.Proofs.Ytafpbdmggnfdnaa
open Go.RowKit
set_option linter.unusedVariables false

/-- A store between two calls. -/
structure Ok (S : PS) (c d : Nat → Nat) : Prop where
  inv : PInv S c d
  closed : Closed S.nodes c
  acyc : Acyc S.nodes c

/-- What Unify of two known nodes answers. -/
def UnifyPost (w : World) (base : Nat) (L : Lay) (S : PS) (c d : Nat → Nat) (a b : Nat) (e : Ending) (w' : World) : Prop :=
  ∃ (S' : PS) (c' d' : Nat → Nat) (err : Int), e = .returned (.int .i64 err) ∧ St w' base L S' ∧ S'.nodes = S.nodes ∧ Ok S' c' d' ∧ Only L.fq w w' ∧
    ((err = 0 ∧ Least S.nodes c a b c') ∨ (err = 131 ∧ S' = S ∧ c' = c ∧ ∀ e, ¬ Good S.nodes c a b e) ∨ (err = 130 ∧ S' = S ∧ c' = c ∧ ∃ cl, Least S.nodes c a b cl ∧ ¬ Acyc S.nodes cl))

theorem allIn_two {n a b : Nat} (ha : a < n) (hb : b < n) : allIn n [(a : Int), (b : Int)] = true := by simp [allIn]; omega
set_option maxRecDepth 100000 in
set_option maxHeartbeats 4000000 in
theorem unify_any {w : World} {base : Nat} {L : Lay} {S : PS} {c d : Nat → Nat} (h : St w base L S) (hi : Ok S c d) (a b : Nat) (ha : a < S.nodes.length) (hb : b < S.nodes.length) :
    Calls Try.prog 23 #[.pointer (some ⟨L.g, 0, none⟩), .int .i64 (a : Int), .int .i64 (b : Int)] w (UnifyPost w base L S c d a b) := by
  have hb1 : Below w.heap.size w (w.alloc (.cells #[.int .i64 (a : Int), .int .i64 (b : Int)] 3)) := (Below.refl _ _).alloc (Nat.le_refl _) _
  have HK := hide (known_any (h.later hb1) (some ⟨w.heap.size, 0, none⟩) 2 [(a : Int), (b : Int)] (ints_two w a b _) (by simp))
  rw [allIn_two ha hb] at HK
  obtain ⟨W0, hW0⟩ : ∃ W0, w.alloc (.cells #[.int .i64 (a : Int), .int .i64 (b : Int)] 3) = W0 := ⟨_, rfl⟩
  rw [hW0] at HK hb1
  have HW0 := hide hW0; clear hW0
  have HM := hide (merge_any (h.later hb1) hi.inv hi.closed a b ha hb true)
  have HO0 := hide (Only.of_below hb1 L.fq)
  have Hi := hide hi
  have hn := h.many
  have H0 := hide h
  clear h hi hb1
  go_enter Try.func23, Try.ntmps23
  go_wp2_with fail
  rw [HW0.out]
  refine HK.out.mono ?_
  rintro e w1 ⟨rfl, rfl⟩
  go_wp2_with fail
  refine HM.out.mono ?_
  rintro e w1 ⟨S1, c1, d1, steps, vs, err, rfl, hst1, hn1, hi1, hund, hown, hon, hsl, hkn, hcase⟩
  have O1 := hide (HO0.out.trans hon)
  have HS1 := hide hst1; have Hn1 := hide hn1; have Hi1 := hide hi1; have Hund := hide hund
  have hsl' : steps.length ≤ 1000000 := by rw [hn1] at hsl; omega
  have HU := hide (fun (W : World) (hb : Below w1.heap.size w1 W) => undo_any (hst1.later hb) vs steps (own_keep hown (fun k hk => hb.block k (hown.lt k hk).2)) hkn hsl')
  obtain ⟨A, cap, hvs, -, -⟩ := own_len hown
  have ha1 : a < S1.nodes.length := by rw [hn1]; exact ha
  have HC := hide (cyclic_any hst1 hi1 a ha1)
  rw [hvs] at HU ⊢
  clear hst1 hn1 hi1 hund hown hon hsl hkn HM HK hvs
  rcases hcase with ⟨rfl, hminv, -⟩ | ⟨rfl, hfail⟩
  · have Hminv := hide hminv
    rcases Nat.eq_zero_or_pos steps.length with hz | hz
    · have hs0 : steps = [] := List.eq_nil_of_length_eq_zero hz
      subst hs0
      have hSS : S1 = S := Hund.out
      subst hSS
      go_wp2
      go_ret
      have hu : ∀ i, i < S1.nodes.length → c1 i = c i := fun i hi => Forest.unique Hi1.out.forest Hi.out.inv.forest i hi
      exact ⟨S1, c1, d1, 0, rfl, HS1.out, rfl, ⟨Hi1.out, Hminv.out.done.good.closed, Hi.out.acyc.of (fun i j hi hj e => by rw [← hu i hi, ← hu j hj]; exact e)⟩, O1.out, .inl ⟨rfl, Hminv.out.done⟩⟩
    · have hz' : decide ((0 : Int) < (steps.length : Int)) = true := by simp; omega
      have hz'' : decide (0 < steps.length) = true := by simpa using hz
      go_wp2_with fail
      refine HC.out.mono ?_
      rintro e w2 ⟨hbc, hcy⟩
      rcases hcy with ⟨rfl, hna⟩ | ⟨rfl, st, fin, t, hsr⟩
      · have Hna := hide hna; clear hna
        have HO2 := hide (O1.out.trans (Only.of_below hbc L.fq))
        have HU2 := hide (HU.out w2 hbc); clear hbc
        go_wp2_with fail
        refine HU2.out.mono ?_
        rintro e w3 ⟨⟨v, rfl⟩, hst3, hon3⟩
        rw [Hund.out] at hst3
        have HS3 := hide hst3; have HO3 := hide (HO2.out.trans hon3); clear hst3 hon3
        go_wp2
        go_ret
        exact ⟨S, c, d, 130, rfl, HS3.out, rfl, Hi.out, HO3.out, .inr (.inr ⟨rfl, rfl, rfl, c1, by rw [← Hn1.out]; exact Hminv.out.done, by rw [← Hn1.out]; exact Hna.out⟩)⟩
      · have Hsr := hide hsr; clear hsr
        have HO2 := hide (O1.out.trans (Only.of_below hbc L.fq))
        have HS2 := hide (HS1.out.later hbc); clear hbc
        go_wp2
        go_ret
        refine ⟨S1, c1, d1, 0, rfl, HS2.out, Hn1.out, ⟨Hi1.out, Hminv.out.done.good.closed, ?_⟩, HO2.out, .inl ⟨rfl, by rw [← Hn1.out]; exact Hminv.out.done⟩⟩
        exact Hsr.out.acyc (c0 := c) (b := b) (A := fun i => i) (F := par S1.forms) Hi1.out.wf (by rw [Hn1.out]; exact Hi.out.acyc) Hminv.out ha1 (by rw [Hn1.out]; exact hb) (fun i hi => Hi1.out.forms (c1 i) (Hi1.out.root i hi).1 (Hi1.out.root i hi).2.2) (fun i p _ hp => by unfold argsOf; rw [hp]; rfl)
  · have Hf := hide hfail; clear hfail
    have HU2 := hide (HU.out w1 (Below.refl _ _))
    go_wp2_with fail
    refine HU2.out.mono ?_
    rintro e w3 ⟨⟨v, rfl⟩, hst3, hon3⟩
    rw [Hund.out] at hst3
    have HS3 := hide hst3; have HO3 := hide (O1.out.trans hon3); clear hst3 hon3
    go_wp2
    go_ret
    refine ⟨S, c, d, 131, rfl, HS3.out, rfl, Hi.out, HO3.out, .inr (.inl ⟨rfl, rfl, rfl, ?_⟩)⟩
    have := Hf.out
    unfold Fails at this
    rw [if_pos rfl, Hn1.out] at this
    exact this

set_option maxHeartbeats 1000000 in
theorem unify_no {w : World} {base : Nat} {L : Lay} {S : PS} (h : St w base L S) (a b : Int) (hk : allIn S.nodes.length [a, b] = false) :
    Calls Try.prog 23 #[.pointer (some ⟨L.g, 0, none⟩), .int .i64 a, .int .i64 b] w fun e w' => e = .returned (.int .i64 221) ∧ Below w.heap.size w w' := by
  have hb1 : Below w.heap.size w (w.alloc (.cells #[.int .i64 a, .int .i64 b] 3)) := (Below.refl _ _).alloc (Nat.le_refl _) _
  have HK := hide (known_any (h.later hb1) (some ⟨w.heap.size, 0, none⟩) 2 [a, b] (ints_two w a b _) (by simp))
  rw [hk] at HK
  clear hk hb1
  go_enter Try.func23, Try.ntmps23
  go_wp2_with fail
  refine HK.out.mono ?_
  rintro e w1 ⟨rfl, rfl⟩
  go_wp2
  go_ret
  exact ⟨rfl, (Below.refl _ _).alloc (Nat.le_refl _) _⟩

set_option maxRecDepth 100000 in
set_option maxHeartbeats 4000000 in
theorem alike_any {w : World} {base : Nat} {L : Lay} {S : PS} {c d : Nat → Nat} (h : St w base L S) (hi : Ok S c d) (a b : Nat) (ha : a < S.nodes.length) (hb : b < S.nodes.length) :
    Calls Try.prog 19 #[.pointer (some ⟨L.g, 0, none⟩), .int .i64 (a : Int), .int .i64 (b : Int)] w fun e w' => (∃ r : Bool, e = .returned (.bool r) ∧ (r = true ↔ AlikeIn S.nodes c a b)) ∧ St w' base L S ∧ Only L.fq w w' := by
  have hb1 : Below w.heap.size w (w.alloc (.cells #[.int .i64 (a : Int), .int .i64 (b : Int)] 3)) := (Below.refl _ _).alloc (Nat.le_refl _) _
  have HK := hide (known_any (h.later hb1) (some ⟨w.heap.size, 0, none⟩) 2 [(a : Int), (b : Int)] (ints_two w a b _) (by simp))
  rw [allIn_two ha hb] at HK
  obtain ⟨W0, hW0⟩ : ∃ W0, w.alloc (.cells #[.int .i64 (a : Int), .int .i64 (b : Int)] 3) = W0 := ⟨_, rfl⟩
  rw [hW0] at HK hb1
  have HW0 := hide hW0; clear hW0
  have HM := hide (merge_any (h.later hb1) hi.inv hi.closed a b ha hb false)
  have HO0 := hide (Only.of_below hb1 L.fq)
  have hn := h.many
  clear h hb1
  go_enter Try.func19, Try.ntmps19
  go_wp2_with fail
  rw [HW0.out]
  refine HK.out.mono ?_
  rintro e w1 ⟨rfl, rfl⟩
  go_wp2_with fail
  refine HM.out.mono ?_
  rintro e w1 ⟨S1, c1, d1, steps, vs, err, rfl, hst1, hn1, hi1, hund, hown, hon, hsl, hkn, hcase⟩
  have O1 := hide (HO0.out.trans hon)
  have hsl' : steps.length ≤ 1000000 := by rw [hn1] at hsl; omega
  have HU := hide (undo_any hst1 vs steps hown hkn hsl')
  rw [hund] at HU
  have Hcase := hide hcase; have Hn1 := hide hn1
  obtain ⟨A, cap, hvs, -, -⟩ := own_len hown
  rw [hvs] at HU ⊢
  clear hst1 hn1 hi1 hund hown hon hsl hkn HM HK hvs hcase
  go_wp2_with fail
  refine HU.out.mono ?_
  rintro e w2 ⟨⟨v, rfl⟩, hst2, hon2⟩
  have HS2 := hide hst2; have HO2 := hide (O1.out.trans hon2); clear hst2 hon2
  rcases Hcase.out with ⟨rfl, hm, hs⟩ | ⟨rfl, hf⟩
  · have Hm := hide hm; have Hs := hide (hs trivial); clear hm hs
    go_wp2
    go_ret
    refine ⟨⟨true, rfl, ⟨fun _ => ?_, fun _ => rfl⟩⟩, HS2.out, HO2.out⟩
    rw [← Hn1.out]
    exact ⟨c1, Hm.out.done.good, Hs.out⟩
  · have Hf := hide hf; clear hf
    go_wp2
    go_ret
    refine ⟨⟨false, rfl, ⟨fun h1 => (by cases h1), fun h1 => ?_⟩⟩, HS2.out, HO2.out⟩
    have := Hf.out
    unfold Fails at this
    rw [if_neg (by decide), Hn1.out] at this
    exact absurd h1 this
end Go.Proofs.Ytafpbdmggnfdnaa
