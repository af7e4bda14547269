/- The program's store: undo. -/
import Derived.Test.YtafpbdmggnfdnaaStoreBack
import Derived.Test.YtafpbdmggnfdnaaRound
namespace Go.Proofs.Ytafpbdmggnfdnaa
open Go.RowKit Go.Shelf
set_option linter.unusedVariables false
attribute [local go_sem] Oper.semAt_some

theorem stepCells_at (l : List Stp) (i : Nat) (s : Stp) (h : l[i]? = some s) : (stepCells l)[i * 4]? = some (.int .i64 (s.1 : Int)) ∧ (stepCells l)[i * 4 + 1]? = some (.int .i64 (s.2.1 : Int)) ∧ (stepCells l)[i * 4 + 2]? = some (.int .i64 (s.2.2.1 : Int)) ∧ (stepCells l)[i * 4 + 3]? = some (.int .i64 (s.2.2.2 : Int)) := by
  induction l generalizing i with
  | nil => simp at h
  | cons x l ih =>
    rcases i with _ | i
    · simp at h; subst h; simp [stepCells]
    · simp at h
      obtain ⟨h1, h2, h3, h4⟩ := ih i h
      have e : ∀ j, (stepCells (x :: l))[j + 4]? = (stepCells l)[j]? := by intro j; simp [stepCells]
      exact ⟨by rw [show (i + 1) * 4 = i * 4 + 4 by omega, e]; exact h1, by rw [show (i + 1) * 4 + 1 = i * 4 + 1 + 4 by omega, e]; exact h2, by rw [show (i + 1) * 4 + 2 = i * 4 + 2 + 4 by omega, e]; exact h3, by rw [show (i + 1) * 4 + 3 = i * 4 + 3 + 4 by omega, e]; exact h4⟩
theorem stps_of_own {w : World} {base n : Nat} {e : TypeId} {l : List Stp} {A : Option Addr} {c : Nat} (h : w.ownsRow base e 4 (.slice A n c) n (stepCells l)) : StpsAt w A l := by
  intro i s hs
  have hn : 0 < n := by
    have h1 := h.1
    rw [stepCells_length] at h1
    have := (List.getElem?_eq_some_iff.1 hs).1
    omega
  obtain ⟨g, cap, hv, _⟩ := own_pos h hn
  injection hv with hA _ _
  subst hA
  obtain ⟨h1, h2, h3, h4⟩ := stepCells_at l i s hs
  have c : ∀ j u, (stepCells l)[j]? = some u → w.cell? ⟨g, j, none⟩ = some u := by
    intro j u hu
    have := h.cells (g := g) rfl j u hu
    rwa [addr_add', Nat.zero_add] at this
  exact ⟨g, 0, rfl, by rw [Nat.zero_add]; exact c _ _ h1, by rw [Nat.zero_add]; exact c _ _ h2, by rw [Nat.zero_add]; exact c _ _ h3, by rw [Nat.zero_add]; exact c _ _ h4⟩

/-- A step whose nodes are known, with its place. -/
abbrev PSt (n : Nat) := { x : Nat × Stp // x.2.1 < n ∧ x.2.2.1 < n }
def undoL {n : Nat} (S : PS) (l : List (PSt n)) : PS := l.foldl (fun S x => S.undo x.1.2) S
theorem undoL_snoc {n : Nat} (S : PS) (l : List (PSt n)) (x : PSt n) : undoL S (l ++ [x]) = (undoL S l).undo x.1.2 := by simp [undoL]
theorem undoL_nodes {n : Nat} (S : PS) (l : List (PSt n)) : (undoL S l).nodes = S.nodes := by
  unfold undoL
  induction l generalizing S with
  | nil => rfl
  | cons x l ih => rw [List.foldl_cons, ih]; rfl
def placed {n : Nat} : (l : List Stp) → (∀ s ∈ l, s.1 < n ∧ s.2.1 < n) → Nat → List (PSt n)
  | [], _, _ => []
  | s :: l, h, k => ⟨(k, s), h s List.mem_cons_self⟩ :: placed l (fun s hs => h s (List.mem_cons_of_mem _ hs)) (k + 1)
theorem placed_length {n : Nat} (l : List Stp) (h : ∀ s ∈ l, s.1 < n ∧ s.2.1 < n) (k : Nat) : (placed l h k).length = l.length := by
  induction l generalizing k with
  | nil => rfl
  | cons s l ih => simp [placed, ih]
theorem placed_idx {n : Nat} (l : List Stp) (h : ∀ s ∈ l, s.1 < n ∧ s.2.1 < n) (k i : Nat) (hi : i < (placed l h k).length) : ((placed l h k)[i]).1.1 = k + i := by
  induction l generalizing k i with
  | nil => simp [placed] at hi
  | cons s l ih =>
    rcases i with _ | i
    · rfl
    · simp only [placed, List.getElem_cons_succ]
      rw [ih]; omega
theorem placed_val {n : Nat} (l : List Stp) (h : ∀ s ∈ l, s.1 < n ∧ s.2.1 < n) (k : Nat) : (placed l h k).map (fun x => x.1.2) = l := by
  induction l generalizing k with
  | nil => rfl
  | cons s l ih => simp [placed, ih]
theorem undoL_reverse {n : Nat} (S : PS) (l : List Stp) (h : ∀ s ∈ l, s.1 < n ∧ s.2.1 < n) (k : Nat) : undoL S (placed l h k).reverse = undoAll S l := by
  unfold undoL undoAll
  rw [List.foldl_reverse]
  conv => rhs; rw [← placed_val l h k, List.foldr_map]

set_option maxRecDepth 100000 in
set_option maxHeartbeats 4000000 in
theorem undo_any {w : World} {base base' : Nat} {L : Lay} {S : PS} (h : St w base L S) (vs : Value) (steps : List Stp) (hs : w.ownsRow base' 108 4 vs steps.length (stepCells steps)) (hb : ∀ s ∈ steps, s.1 < S.nodes.length ∧ s.2.1 < S.nodes.length) (hl : steps.length ≤ 1000000) :
    Calls Try.prog 47 #[.pointer (some ⟨L.g, 0, none⟩), vs] w fun e w' => (∃ v, e = .returned v) ∧ St w' base L (undoAll S steps) ∧ Only L.fq w w' := by
  obtain ⟨A, cap, rfl, -, -⟩ := own_len hs
  have hsf : ∀ b, (Value.slice A steps.length cap).ownBlock = some b → ¬ L.fq b := by
    intro b hb' hf
    rcases hf with e | e | e
    · exact own_ne hs h.above (by decide) b hb' e
    · exact own_ne hs h.ranks (by decide) b hb' e
    · exact own_ne hs h.forms (by decide) b hb' e
  refine (callsIn_wide (n := 3)).1 ?_
  refine callsIn_of_wp_marks Try.func47 rfl trivial ?_ rfl
  simp only [Try.ntmps47, List.size_toArray, List.length_cons, List.length_nil, Nat.reduceAdd, Nat.reduceSub, Array.replicate_succ, Array.replicate_zero, List.push_toArray, List.append_toArray, List.nil_append, List.cons_append]
  gi_wp2
  refine ⟨trivial, ?_⟩
  refine (back_in Fence.wide _ trivial rfl (.slice A steps.length cap) rfl _).mono ?_
  rintro e w' ⟨rfl, rfl⟩
  gi_wp2
  obtain ⟨W0, hW0⟩ : ∃ W0, (w.alloc (.cells #[.pointer (some ⟨L.g, 0, none⟩)] 26)).alloc (.cells #[.slice A steps.length cap] 84) = W0 := ⟨_, rfl⟩
  have hbw : Below w.heap.size w W0 := by rw [← hW0]; exact ((Below.refl _ _).alloc (Nat.le_refl _) _).alloc (by simp) _
  have hz0 : W0.heap.size = w.heap.size + 2 := by rw [← hW0]; simp
  have hB1 : Boxed W0 w.heap.size 26 (.pointer (some ⟨L.g, 0, none⟩)) := by rw [← hW0]; exact (Boxed.new w _ _).alloc _
  have hB2 : W0.cell? ⟨w.heap.size + 1, 0, none⟩ = some (.slice A steps.length cap) := by
    rw [← hW0]; have := heap_alloc_new (w.alloc (.cells #[.pointer (some ⟨L.g, 0, none⟩)] 26)) (.cells #[.slice A steps.length cap] 84); rw [World.size_alloc] at this; rw [cell_of_row _ _ _ _ _ _ this]; rfl
  simp only [World.size_alloc, hW0]
  clear hW0
  have old : Older L w.heap.size := h.older
  have hst0 : St W0 base L S := h.later hbw
  have hA : ∀ a, A = some a → ¬ (L.fq a.block ∨ W0.heap.size ≤ a.block) := by
    intro a ha hf
    rcases hf with e | e
    · exact hsf a.block (by rw [ha]; rfl) e
    · have := (hs.lt a.block (by rw [ha]; rfl)).2; omega
  have hStp : StpsAt W0 A ((placed steps hb 0).map fun x => x.1.2) := by
    rw [placed_val]
    exact stps_of_own (own_keep hs fun b hb' => hbw.block b (hs.lt b hb').2)
  have hseq : SeqStopsK Fence.wide 2 Try.prog 68 #[.pointer (some ⟨w.heap.size + 1, 0, none⟩)] (fun x : PSt S.nodes.length => #[.int .i64 (x.1.1 : Int), stpV x.1.2]) (Only fun b => L.fq b ∨ W0.heap.size ≤ b) (fun ys => ys = (placed steps hb 0).reverse) (fun _ => True) (placed steps hb 0).length W0 := by
    intro l J Jx W hW _ _ hY h0
    refine back1_in Fence.wide 2 trivial rfl (by decide) l (w.heap.size + 1) _ A cap (fun x => x.1.1) (fun x => x.1.2) (placed steps hb 0) (fun i hi => by rw [placed_idx]; omega) (by rw [placed_length]; exact hl) J Jx hY W ?_ ?_ ?_ hA h0
    · rw [placed_length]; exact (hW.cell (p := ⟨w.heap.size + 1, 0, none⟩) (by simp only; omega)).trans hB2
    · rintro (e | e)
      · have := old.fp _ (Lay.fq_fp e); omega
      · omega
    · intro i s' hs'
      obtain ⟨b, off, e, d0, d1, d2, d3⟩ := hStp i s' hs'
      exact ⟨b, off, e, (hW.cell (p := ⟨b, off + i * 4, none⟩) (World.block_lt_of_cell? W0 _ d0)).trans d0, (hW.cell (p := ⟨b, off + i * 4 + 1, none⟩) (World.block_lt_of_cell? W0 _ d1)).trans d1, (hW.cell (p := ⟨b, off + i * 4 + 2, none⟩) (World.block_lt_of_cell? W0 _ d2)).trans d2, (hW.cell (p := ⟨b, off + i * 4 + 3, none⟩) (World.block_lt_of_cell? W0 _ d3)).trans d3⟩
  refine wpIn_rangeFunc_ownH rfl (by decide) (gf := 68) (lb := #[.pointer (some ⟨w.heap.size + 1, 0, none⟩)]) rfl trivial (enters_of Try.func68 (by kernel_rfl) rfl)
    hseq (fun h1 h2 => h1.trans h2) (fun W l o o' hl' ho hc _ => ?kb) (Below.refl _ _) (fun _ => rfl)
    (fun pre W => Boxed W w.heap.size 26 (.pointer (some ⟨L.g, 0, none⟩)) ∧ St W base L (undoL S pre) ∧ Only L.fq w W ∧ W0.heap.size ≤ W.heap.size)
    (fun _ _ _ => False) ?hI (fun _ _ _ _ _ hs _ _ => hs) ⟨hB1, hst0, Only.of_below' hbw, Nat.le_refl _⟩
    (fun x a' W => ∃ Bx, W0.heap.size ≤ Bx ∧ W.heap[Bx]? = some (.cells #[.int .i64 (x.1.2.1 : Int), .int .i64 (x.1.2.2.1 : Int), .int .i64 (x.1.2.2.2.1 : Int), .int .i64 (x.1.2.2.2.2 : Int)] 108 (0, 0)) ∧ a' = { tmps := #[.pointer (some ⟨L.g, 0, none⟩), .slice A steps.length cap, .pointer (some ⟨w.heap.size, 0, none⟩), undef, undef, .pointer (some ⟨Bx, 0, none⟩), .slice A steps.length cap, .func (.func 68) #[] #[.pointer (some ⟨w.heap.size + 1, 0, none⟩)], .int .i64 (x.1.1 : Int), stpV x.1.2, undef, undef, undef, undef, undef, undef, undef, undef, undef, undef, undef, undef, undef, undef, undef, undef, undef, undef, undef, undef, undef, undef, undef, undef, undef, undef, undef], defers := [] })
    ?hAx ?assign ?body ?done ?stop
  case kb => exact (only_of_grown (grownBy_putObj' W l o')).mono fun b _ e => .inr (by injection e with e; omega)
  case hI =>
    rintro s W W' row ⟨h1, h2, h3, h4⟩ hg hr
    exact ⟨boxed_own w.heap.size _ (fun _ : Unit => _) () W W' row h1 hg (fun r e => (hr r e).2), h2.grown old hg (fun b e => by have := (hr b e).1; omega), h3.grown hg (fun b e => .inr (by have := (hr b e).1; omega)), Nat.le_trans h4 hg.size⟩
  case hAx =>
    rintro x a' _ W W' row ⟨Bx, h1, h2, h3⟩ hg hr
    refine ⟨Bx, h1, (hg.block Bx (Array.getElem?_eq_some_iff.1 h2).1 (fun e => ?_)).trans h2, h3⟩
    obtain ⟨_, o, ho, hc⟩ := hr Bx e.symm
    rw [h2] at ho; cases ho; cases hc
  case assign =>
    rintro l pre x W K ⟨hbx, hst, hon, hsz⟩ hK
    unfold stpV
    gi_wp2
    exact hK _ _ ((KeepsOthers.alloc _ _).from _) ((Only.refl _ W).alloc _) ⟨hbx.alloc _, hst.later ((Below.refl _ W).alloc (Nat.le_refl _) _), hon.alloc _, by simp; omega⟩ ⟨W.heap.size, hsz, heap_alloc_new W _, rfl⟩
  case body =>
    rintro l pre x a' W hl' ⟨r, hr⟩ ⟨hbx, hst, hon, hsz⟩ ⟨Bx, hBx, hX, rfl⟩ hlt
    obtain ⟨⟨ix, under, over, form, rank⟩, hu, ho⟩ := x
    simp only at hu ho hX ⊢
    obtain ⟨P0, hP0⟩ : ∃ P0, undoL S pre = P0 := ⟨_, rfl⟩
    have hpre : undoL S (pre ++ [⟨(ix, under, over, form, rank), hu, ho⟩]) = P0.undo (under, over, form, rank) := by rw [undoL_snoc, hP0]
    rw [hP0] at hst
    have hn : P0.nodes.length = S.nodes.length := by rw [← hP0, undoL_nodes]
    obtain ⟨ba, ca, hva, hca⟩ := own_pos hst.above (by omega)
    obtain ⟨br, cr, hvr, hcr⟩ := own_pos hst.ranks (by omega)
    obtain ⟨bf, cf, hvf, hcf⟩ := own_pos hst.forms (by omega)
    obtain ⟨-, g1, g2, g3⟩ := hst.gcell
    rw [hva] at g1; rw [hvr] at g2; rw [hvf] at g3
    have hm := hst.many
    have x0 : W.cell? ⟨Bx, 0, none⟩ = some (.int .i64 (under : Int)) := by rw [cell_of_row _ _ _ _ _ _ hX]; rfl
    have bx := hbx.cell
    have a0 := own_nat hst.above hva under (by rw [hst.la]; omega)
    rw [par_at (by rw [hst.la]; omega)] at a0
    have az : W.frozen? ⟨ba, under, none⟩ = false := hst.free (.inr (.inl rfl)) hva under
    gi_wp2
    refine round_still_tail 9 (by rintro ⟨_, _, hq⟩; exact hq) (by kernel_rfl) (by kernel_rfl) (by kernel_rfl) ?_
    simp only [List.take_succ_cons, List.take_zero, List.drop_succ_cons, List.drop_zero]
    repeat still_step
    refine wpStill_nil ?_
    go_wp2
    obtain ⟨W1, hW1⟩ : ∃ W1, (W.setCell ⟨ba, under, none⟩ (.int .i64 (under : Int))).drew = W1 := ⟨_, rfl⟩
    have hst1 : St W1 base L { P0 with above := P0.above.set under under } := by rw [← hW1]; exact (hst.set_above hva under under).drew
    have on1 : Only L.fq W W1 := by rw [← hW1]; exact ((Only.refl L.fq W).setCell (p := ⟨ba, under, none⟩) (.inl (.inl (by rw [hva]; rfl))) _).drew
    have ks1 : KeepsOthers W W1 := by rw [← hW1]; exact (KeepsOthers.setCell _ _ _).trans (KeepsOthers.drew _)
    have hX1 : W1.heap[Bx]? = _ := (on1.block Bx (Array.getElem?_eq_some_iff.1 hX).1 (fun hf => by have := old.fp _ (Lay.fq_fp hf); omega)).trans hX
    have hbx1 : Boxed W1 w.heap.size 26 (.pointer (some ⟨L.g, 0, none⟩)) := (on1.block w.heap.size (Array.getElem?_eq_some_iff.1 hbx).1 (fun hf => by have := old.fp _ (Lay.fq_fp hf); omega)).trans hbx
    simp only [hW1]
    clear hW1 x0 a0 az g1 bx
    obtain ⟨-, -, -, g3⟩ := hst1.gcell
    rw [hvf] at g3
    have bx := hbx1.cell
    have x1 : W1.cell? ⟨Bx, 1, none⟩ = some (.int .i64 (over : Int)) := by rw [cell_of_row _ _ _ _ _ _ hX1]; rfl
    have x2 : W1.cell? ⟨Bx, 2, none⟩ = some (.int .i64 (form : Int)) := by rw [cell_of_row _ _ _ _ _ _ hX1]; rfl
    have a0 := own_nat hst1.forms hvf over (by rw [hst1.lf]; simp only; omega)
    rw [par_at (by rw [hst1.lf]; simp only; omega)] at a0
    have az : W1.frozen? ⟨bf, over, none⟩ = false := hst1.free (.inr (.inr (.inr rfl))) hvf over
    gi_wp2
    refine round_still_tail 9 (by rintro ⟨_, _, hq⟩; exact hq) (by kernel_rfl) (by kernel_rfl) (by kernel_rfl) ?_
    simp only [List.take_succ_cons, List.take_zero, List.drop_succ_cons, List.drop_zero]
    repeat still_step
    refine wpStill_nil ?_
    go_wp2
    obtain ⟨W2, hW2⟩ : ∃ W2, (W1.setCell ⟨bf, over, none⟩ (.int .i64 (form : Int))).drew = W2 := ⟨_, rfl⟩
    have hst2 : St W2 base L { P0 with above := P0.above.set under under, forms := P0.forms.set over form } := by rw [← hW2]; exact (hst1.set_forms hvf over form).drew
    have on2 : Only L.fq W1 W2 := by rw [← hW2]; exact ((Only.refl L.fq W1).setCell (p := ⟨bf, over, none⟩) (.inl (.inr (.inr (by rw [hvf]; rfl)))) _).drew
    have ks2 : KeepsOthers W1 W2 := by rw [← hW2]; exact (KeepsOthers.setCell _ _ _).trans (KeepsOthers.drew _)
    have hX2 : W2.heap[Bx]? = _ := (on2.block Bx (Array.getElem?_eq_some_iff.1 hX1).1 (fun hf => by have := old.fp _ (Lay.fq_fp hf); omega)).trans hX1
    have hbx2 : Boxed W2 w.heap.size 26 (.pointer (some ⟨L.g, 0, none⟩)) := (on2.block w.heap.size (Array.getElem?_eq_some_iff.1 hbx1).1 (fun hf => by have := old.fp _ (Lay.fq_fp hf); omega)).trans hbx1
    simp only [hW2]
    clear hW2 x1 x2 a0 az g3 bx
    obtain ⟨-, -, g2, -⟩ := hst2.gcell
    rw [hvr] at g2
    have bx := hbx2.cell
    have x1 : W2.cell? ⟨Bx, 1, none⟩ = some (.int .i64 (over : Int)) := by rw [cell_of_row _ _ _ _ _ _ hX2]; rfl
    have x3 : W2.cell? ⟨Bx, 3, none⟩ = some (.int .i64 (rank : Int)) := by rw [cell_of_row _ _ _ _ _ _ hX2]; rfl
    have a0 := own_nat hst2.ranks hvr over (by rw [hst2.lr]; simp only; omega)
    rw [par_at (by rw [hst2.lr]; simp only; omega)] at a0
    have az : W2.frozen? ⟨br, over, none⟩ = false := hst2.free (.inr (.inr (.inl rfl))) hvr over
    gi_wp2
    refine round_still_tail 9 (by rintro ⟨_, _, hq⟩; exact hq) (by kernel_rfl) (by kernel_rfl) (by kernel_rfl) ?_
    simp only [List.take_succ_cons, List.take_zero, List.drop_succ_cons, List.drop_zero]
    repeat still_step
    refine wpStill_nil ?_
    go_wp2
    have on3 : Only L.fq W2 (W2.setCell ⟨br, over, none⟩ (.int .i64 (rank : Int))).drew := ((Only.refl L.fq W2).setCell (p := ⟨br, over, none⟩) (.inl (.inr (.inl (by rw [hvr]; rfl)))) _).drew
    have onA := (on1.trans on2).trans on3
    refine ⟨((ks1.trans ks2).trans ((KeepsOthers.setCell W2 ⟨br, over, none⟩ (.int .i64 (rank : Int))).trans (KeepsOthers.drew _))).from _, onA.mono (fun b _ hf => .inl hf), (on3.block w.heap.size (Array.getElem?_eq_some_iff.1 hbx2).1 (fun hf => by have := old.fp _ (Lay.fq_fp hf); omega)).trans hbx2, ?_, hon.trans onA, Nat.le_trans hsz onA.size⟩
    rw [hpre]
    exact (hst2.set_ranks hvr over rank).drew
  case done =>
    rintro D ys W hD rfl ⟨hbx, hst, hon, hsz⟩ hK
    gi_wp2
    refine ⟨by simp, .inl ⟨_, _, rfl, run_takeDeferred hK, ?_⟩⟩
    rw [undoL_reverse] at hst
    exact ⟨_, results_none rfl _ _ _, ⟨_, rfl⟩, hst.grown old (grownBy_putObj' W D _) (fun b e => by injection e with e; omega), hon.grown (grownBy_putObj' W D _) (fun b e => .inr (by injection e with e; omega))⟩
  case stop =>
    rintro D c pre W _ _ h _
    exact h.elim
end Go.Proofs.Ytafpbdmggnfdnaa
