/- Part 12 of the proof of UnifyCopies: what follows was kept as these texts: RefMerge, RefRounds, RefUnify. -/
import Derived.Test.YtafpbdmggnfdnaaUnifyCopiesPt1
import Derived.Test.YtafpbdmggnfdnaaUnifyCopiesPt2
import Derived.Test.YtafpbdmggnfdnaaUnifyCopiesPt3
import Derived.Test.YtafpbdmggnfdnaaUnifyCopiesPt4
import Derived.Test.YtafpbdmggnfdnaaUnifyCopiesPt5
import Derived.Test.YtafpbdmggnfdnaaUnifyCopiesPt6
import Derived.Test.YtafpbdmggnfdnaaUnifyCopiesPt7
import Derived.Test.YtafpbdmggnfdnaaUnifyCopiesPt8
import Derived.Test.YtafpbdmggnfdnaaUnifyCopiesPt9
import Derived.Test.YtafpbdmggnfdnaaUnifyCopiesPt10
import Derived.Test.YtafpbdmggnfdnaaUnifyCopiesPt11
import Derived.IntWalk
/- The reference's store: merged. -/
namespace Go.Proofs.Ytafpbdmggnfdnaa
open Go.RowKit
set_option linter.unusedVariables false

theorem rnCells_one : ∀ (N : List Nd) (ad : List (Option Addr × Nat)) (ls : List Int), ∀ u ∈ rnCells N ad ls, u.oneCell' = true
  | [], _, _ => by simp [rnCells]
  | p :: N, [], _ => by simp [rnCells]
  | p :: N, a :: ad, [] => by simp [rnCells]
  | p :: N, a :: ad, l :: ls => by
    intro u hu
    simp only [rnCells, rnCell, List.cons_append, List.nil_append, List.mem_cons] at hu
    rcases hu with rfl | rfl | rfl | rfl | hu
    · rfl
    · rfl
    · rfl
    · rfl
    · exact rnCells_one N ad ls u hu
/-- A link is stored. -/
theorem RSt.link {w : World} {v : Value} {ad : List (Option Addr × Nat)} {R : RS} (h : RSt w v ad R) {g m cap : Nat} (hv : v = .slice (some ⟨g, 0, none⟩) m cap) (x y : Nat) (hx : x < R.nodes.length) (hne : x ≠ y) : RSt (w.setCell ⟨g, x * 4 + 3, none⟩ (.int .i64 (y : Int))) v ad (R.link x y) := by
  obtain ⟨A', c', e1, _, _⟩ := own_len h.own
  have hm : m = R.nodes.length := by rw [hv] at e1; injection e1
  subst hm
  have hb : v.ownBlock = some g := by rw [hv]; rfl
  have ho := h.own
  rw [hv] at ho
  have ho' := (ho.stored (x * 4 + 3) (.int .i64 (y : Int))).1
  rw [← rnCells_set _ _ _ _ _ h.lad (by rw [links_length, h.lup]), ← links_set _ _ _ (by rw [h.lup]; exact hx) hne] at ho'
  have hon : Only (fun k => k = g) w (w.setCell ⟨g, x * 4 + 3, none⟩ (.int .i64 (y : Int))) := (Only.refl (fun k => k = g) w).setCell (p := ⟨g, x * 4 + 3, none⟩) (.inl rfl) _
  refine ⟨by rw [hv]; exact ho', h.lad, by simp [RS.link, h.lup], fun i p a hi ha => ?_, h.many, h.few⟩
  obtain ⟨g1, g2⟩ := h.args i p a hi ha
  exact ⟨Ints.only g1 hon (fun z hz e => (g2 z hz).2 (by rw [hb, e])), fun z hz => ⟨Nat.lt_of_lt_of_le (g2 z hz).1 hon.size, (g2 z hz).2⟩⟩

/-- At the head of a round of merged. -/
structure RMRel (w : World) (ad : List (Option Addr × Nat)) (R0 : RS) (c0 : Nat → Nat) (a b : Nat) (gn capn : Nat) (vw : Value) (R : RS) (c d : Nat → Nat) (todo : List (Nat × Nat)) (wr : World) : Prop where
  st : RSt wr (.slice (some ⟨gn, 0, none⟩) R.nodes.length capn) ad R
  box : wr.heap[w.heap.size]? = some (.cells #[.slice (some ⟨gn, 0, none⟩) R.nodes.length capn] 29 (0, 0))
  res : wr.heap[w.heap.size + 1]? = some (.cells #[.slice none 0 0] 29 (0, 0))
  nodes : R.nodes = R0.nodes
  inv : RInv R c d
  minv : MInv R.nodes c0 a b c todo
  roots : ∀ i, c i = i → c0 i = i
  work : wr.ownsRow w.heap.size 105 2 vw todo.length (pairCells todo)
  below : Below w.heap.size w wr
  many : todo.length + nroots (par R.up) R.nodes.length * 1000000 ≤ 1 + R.nodes.length * 1000000
/-- What merged answers. -/
def RMergedPost (w : World) (ad : List (Option Addr × Nat)) (R0 : RS) (c0 : Nat → Nat) (a b : Nat) (e : Ending) (w' : World) : Prop :=
  ∃ (v' : Value) (R : RS) (c d : Nat → Nat) (ok : Bool), e = .returned (.tuple #[.agg #[v'], .bool ok]) ∧ RSt w' v' ad R ∧ R.nodes = R0.nodes ∧ RInv R c d ∧ (∀ b, v'.ownBlock = some b → w.heap.size ≤ b) ∧ Below w.heap.size w w' ∧
    ((ok = true ∧ MInv R.nodes c0 a b c [] ∧ ∀ i, c i = i → c0 i = i) ∨ (ok = false ∧ ∀ e, ¬ Good R.nodes c0 a b e))
theorem rmrel_next {w wr W : World} {ad : List (Option Addr × Nat)} {R0 R : RS} {c0 c d c' d' : Nat → Nat} {a b gn capn x' y' : Nat} {vw vw' : Value} {todo0 todo' : List (Nat × Nat)} (Rr : RMRel w ad R0 c0 a b gn capn vw R c d todo0 wr) (I' : RInv (R.link x' y') c' d') (M' : MInv R.nodes c0 a b c' todo') (T' : ∀ i, c' i = i → c i = i) (N' : nroots (par (R.link x' y').up) R.nodes.length + 1 = nroots (par R.up) R.nodes.length)
    (hst : RSt W (.slice (some ⟨gn, 0, none⟩) R.nodes.length capn) ad (R.link x' y')) (hbox : W.heap[w.heap.size]? = some (.cells #[.slice (some ⟨gn, 0, none⟩) R.nodes.length capn] 29 (0, 0))) (hres : W.heap[w.heap.size + 1]? = some (.cells #[.slice none 0 0] 29 (0, 0)))
    (hw : W.ownsRow w.heap.size 105 2 vw' todo'.length (pairCells todo')) (hb : Below w.heap.size w W) (hmany : todo'.length ≤ todo0.length + 1000000) : RMRel w ad R0 c0 a b gn capn vw' (R.link x' y') c' d' todo' W := by
  refine ⟨hst, hbox, hres, Rr.nodes, I', M', fun i hi => Rr.roots i (T' i hi), hw, hb, ?_⟩
  have := Rr.many
  have hn : (R.link x' y').nodes.length = R.nodes.length := rfl
  rw [hn]; omega
/-- At the head of a round over the arguments. -/
structure RARel (w W4 : World) (ad : List (Option Addr × Nat)) (gn capn : Nat) (R' : RS) (P Q : Nd) (ax ay : Option Addr × Nat) (lx ly : Int) (todo : List (Nat × Nat)) (vw : Value) (k : Nat) (wr : World) : Prop where
  st : RSt wr (.slice (some ⟨gn, 0, none⟩) R'.nodes.length capn) ad R'
  box : wr.heap[w.heap.size]? = some (.cells #[.slice (some ⟨gn, 0, none⟩) R'.nodes.length capn] 29 (0, 0))
  res : wr.heap[w.heap.size + 1]? = some (.cells #[.slice none 0 0] 29 (0, 0))
  work : wr.ownsRow w.heap.size 105 2 vw (todo.length + k) (pairCells (todo ++ (P.args.zip Q.args).take k))
  below : Below w.heap.size w wr
  b12 : wr.heap[W4.heap.size]? = some (.cells #[.int .i64 P.kind, .string P.name, .slice ax.1 P.args.length ax.2, .int .i64 lx] 91 (0, 0))
  b13 : wr.heap[W4.heap.size + 1]? = some (.cells #[.int .i64 Q.kind, .string Q.name, .slice ay.1 Q.args.length ay.2, .int .i64 ly] 91 (0, 0))
set_option maxRecDepth 100000 in
set_option maxHeartbeats 4000000 in
theorem rmerged_any {w : World} {v : Value} {ad : List (Option Addr × Nat)} {R0 : RS} {c0 d0 : Nat → Nat} (h : RSt w v ad R0) (hi : RInv R0 c0 d0) (hc : Closed R0.nodes c0) (a b : Nat) (ha : a < R0.nodes.length) (hb : b < R0.nodes.length) :
    Calls Try.prog 48 #[.agg #[v], .int .i64 (a : Int), .int .i64 (b : Int)] w (RMergedPost w ad R0 c0 a b) := by
  obtain ⟨i2, ki, kz0, kz1, kz2⟩ := info_parts pairInfo
  obtain ⟨i4, si, sz0, sz1, sz2⟩ := info_parts rnInfo
  have Ki := hide ki; have Kz0 := hide kz0; have Kz1 := hide kz1; have Kz2 := hide kz2
  have Si := hide si; have Sz0 := hide sz0; have Sz1 := hide sz1; have Sz2 := hide sz2
  clear ki kz0 kz1 kz2 si sz0 sz1 sz2
  obtain ⟨g, cap0, hv0, hcap0⟩ := own_pos h.own (by omega)
  subst hv0
  have hm := h.many
  have hgl : g < w.heap.size := h.lt g rfl
  have Hh := hide h; have Hi := hide hi; have Hc := hide hc
  obtain ⟨b0, b1, bb, bz⟩ := box_two w (.slice (some ⟨g, 0, none⟩) R0.nodes.length cap0) (.slice none 0 0) 29 29
  obtain ⟨W0, hW0⟩ : ∃ W0, (w.alloc (.cells #[.slice (some ⟨g, 0, none⟩) R0.nodes.length cap0] 29)).alloc (.cells #[.slice none 0 0] 29) = W0 := ⟨_, rfl⟩
  rw [hW0] at b0 b1 bb bz
  have HW := hide hW0; have Hb0 := hide b0; have Hb1 := hide b1; have Hbb := hide bb; have Hbz := hide bz
  clear hW0 b0 b1 bb bz h hi hc
  go_enter Try.func48, Try.ntmps48
  go_upto_region 1 with fail
  simp only [HW.out]
  obtain ⟨s0, t0⟩ := one_cell Hb0.out
  have hz0 : w.heap.size + 2 ≤ W0.heap.size := by have := Hbz.out; omega
  have hwz : w.heap.size < W0.heap.size := by omega
  have HO := hide (World.ownsRow_made (base := 0) (e := 91) (size := 4) W0 #[] 0 (Nat.zero_le _) (Nat.zero_le _) rfl)
  have HN : Hid (∀ j u, (rnCells R0.nodes ad (links R0.up))[j]? = some u → (W0.alloc (.cells #[] 91)).cell? ((⟨g, 0, none⟩ : Addr).add j) = some u) := hide (by
    intro j u hu
    have h1 := Hh.out.own.cells (g := g) rfl j u hu
    rw [addr_add'] at h1 ⊢
    rw [World.cell?_alloc_lt W0 _ _ (show g < W0.heap.size by omega)]
    exact (Hbb.out.cell (p := ⟨g, 0 + j, none⟩) hgl).trans h1)
  have H1 : Hid (∀ u ∈ rnCells R0.nodes ad (links R0.up), u.oneCell' = true) := hide (rnCells_one _ _ _)
  have HL : Hid ((rnCells R0.nodes ad (links R0.up)).length = R0.nodes.length * 4) := hide (rnCells_length _ _ _ Hh.out.lad (by rw [links_length, Hh.out.lup]))
  go_upto_region 2 with (at_builtin; refine wpList_append_own_at _ rfl (.tmp 15) (.tmp 17) 27 rfl 0 91 i4 (.agg #[.int .i64 0, .string ByteArray.empty, .slice none 0 0, .int .i64 0]) 4 56 Try.underlying27 Si.out Sz0.out Sz1.out Sz2.out rfl (by decide) (.slice (some ⟨W0.heap.size, 0, none⟩) 0 0) 0 [] rfl HO.out ⟨g, 0, none⟩ R0.nodes.length cap0 (rnCells R0.nodes ad (links R0.up)) rfl HL.out HN.out H1.out (by simp only [maxLen]; omega) (by omega) (Nat.zero_le _) ?_; intro v1 W1 own1 grow1 nil1 at1; clear nil1; simp only [Nat.zero_add, List.nil_append] at own1; obtain ⟨gn, capn, hv1, hcapn⟩ := own_pos own1 (by omega); subst hv1)
  have hgn : W0.heap.size ≤ gn := by
    rcases at1 with e | e
    · simp [Value.ownBlock] at e; omega
    · simp [Value.ownBlock] at e; omega
  have hbw1 : Below W0.heap.size W0 W1 := ((Below.refl W0.heap.size W0).alloc (Nat.le_refl _) _).grown grow1 (by simp) (by intro k hk; simp [Value.ownBlock] at hk; omega)
  have hst1 : RSt W1 (.slice (some ⟨gn, 0, none⟩) R0.nodes.length capn) ad R0 := by
    refine ⟨own1, Hh.out.lad, Hh.out.lup, fun i p x hi hx => ?_, Hh.out.many, Hh.out.few⟩
    obtain ⟨k1, k2⟩ := Hh.out.args i p x hi hx
    have hbw : Below w.heap.size w W1 := Hbb.out.trans (hbw1.mono (by omega))
    exact ⟨Ints.below k1 hbw, fun z hz => ⟨Nat.lt_of_lt_of_le (k2 z hz).1 hbw.size, fun e => by have := (k2 z hz).1; simp [Value.ownBlock] at e; omega⟩⟩
  have q0 := (hbw1.block w.heap.size (by omega)).trans Hb0.out
  have q1 := (hbw1.block (w.heap.size + 1) (by omega)).trans Hb1.out
  have hgn1 : gn < W1.heap.size := hst1.lt gn rfl
  have HW1 := hide hst1; have Hbw1 := hide hbw1; have Hq0 := hide q0; have Hq1 := hide q1
  clear own1 grow1 at1 hst1 hbw1 HO HN H1 HL s0 t0
  obtain ⟨s0, t0⟩ := one_cell q0
  clear q0 q1
  go_wp2
  obtain ⟨Ws, hWs⟩ : ∃ Ws, (W1.setCell ⟨w.heap.size, 0, none⟩ (.slice (some ⟨gn, 0, none⟩) R0.nodes.length capn)).alloc (.cells #[.int .i64 (a : Int), .int .i64 (b : Int)] 105) = Ws := ⟨_, rfl⟩
  have hz1 : (W1.setCell ⟨w.heap.size, 0, none⟩ (.slice (some ⟨gn, 0, none⟩) R0.nodes.length capn)).heap.size = W1.heap.size := by simp [World.setCell]
  have HR : Hid (RMRel w ad R0 c0 a b gn capn (.slice (some ⟨W1.heap.size, 0, none⟩) 1 1) R0 c0 d0 [(a, b)] Ws) := hide (by
    have hon : Only (fun k => k = w.heap.size) W1 Ws := by
      rw [← hWs]
      exact ((Only.refl (fun k => k = w.heap.size) W1).setCell (p := ⟨w.heap.size, 0, none⟩) (.inl rfl) _).alloc _
    have hbw : Below w.heap.size w W1 := Hbb.out.trans (Hbw1.out.mono (by omega))
    have hlit := World.ownsRow_lit (base := w.heap.size) (e := 105) (size := 2) (W1.setCell ⟨w.heap.size, 0, none⟩ (.slice (some ⟨gn, 0, none⟩) R0.nodes.length capn)) #[.int .i64 (a : Int), .int .i64 (b : Int)] 1 (by rw [hz1]; omega) (by simp [maxLen]) rfl
    rw [hz1, hWs] at hlit
    refine ⟨HW1.out.only hon (fun k hk e => by simp [Value.ownBlock] at hk; omega) (fun i x hx z hz e => by have := Hh.out.adlt i x hx z hz; omega), ?_, ?_, rfl, Hi.out, MInv.start Hi.out.wf Hc.out ha hb, fun _ e => e, hlit, Only.below_trans hbw hon (fun k _ e => by omega) hbw.size, ?_⟩
    · rw [← hWs, Below.heap_alloc _ _ _ (by rw [hz1]; omega)]
      exact blk_set Hq0.out 0 _
    · rw [← hWs, Below.heap_alloc _ _ _ (by rw [hz1]; omega), Below.heap_setCell _ _ _ _ (by simp)]
      exact Hq1.out
    · have := nroots_le (par R0.up) R0.nodes.length
      simp; omega)
  simp only [hWs]
  clear hWs hz1 s0 t0 HW1 Hbw1 Hq0 Hq1
  go_loopg [9] (nroots (par R0.up) R0.nodes.length * 1000001 + 1) (fun k vw wr => ∃ (R : RS) (c d : Nat → Nat) (todo : List (Nat × Nat)), k = nroots (par R.up) R.nodes.length * 1000001 + todo.length ∧ RMRel w ad R0 c0 a b gn capn vw R c d todo wr)
  case atStart => exact ⟨R0, c0, d0, [(a, b)], rfl, HR.out⟩
  case round =>
    obtain ⟨R, c, d, todo, hk, Rr⟩ := hrel
    clear HR
    have Hk := hide hk; clear hk
    rcases List.eq_nil_or_concat todo with rfl | ⟨todo, ⟨p, q⟩, rfl⟩
    · obtain ⟨A, cap, rfl, -, -⟩ := own_len Rr.work
      obtain ⟨s0, t0⟩ := one_cell Rr.box
      obtain ⟨s1, t1⟩ := one_cell Rr.res
      have HRr := hide Rr
      clear Rr
      go_wp2
      have hz5 := blk_set HRr.out.res 0 (.slice (some ⟨gn, 0, none⟩) R.nodes.length capn)
      obtain ⟨W5, hW5⟩ : ∃ W5, wr.setCell ⟨w.heap.size + 1, 0, none⟩ (.slice (some ⟨gn, 0, none⟩) R.nodes.length capn) = W5 := ⟨_, rfl⟩
      have hpost : RMergedPost w ad R0 c0 a b (.returned (.tuple #[.agg #[.slice (some ⟨gn, 0, none⟩) R.nodes.length capn], .bool true])) W5 := by
        have hon : Only (fun k => k = w.heap.size + 1) wr W5 := by
          rw [← hW5]
          exact (Only.refl (fun k => k = w.heap.size + 1) wr).setCell (p := ⟨w.heap.size + 1, 0, none⟩) (.inl rfl) _
        exact ⟨_, R, c, d, true, rfl, (HRr.out.st).only hon (fun k hk e => by simp [Value.ownBlock] at hk; omega) (fun i x hx z hz e => by have := Hh.out.adlt i x hx z hz; omega), HRr.out.nodes, HRr.out.inv, fun k hk => (by simp [Value.ownBlock] at hk; omega), Only.below_trans (HRr.out.below) hon (fun k _ e => by omega) (HRr.out.below).size, .inl ⟨rfl, HRr.out.minv, HRr.out.roots⟩⟩
      rw [hW5] at hz5
      obtain ⟨k0, -⟩ := one_cell hz5
      simp only [hW5]
      clear hW5 hz5
      exact bodyPost_ret (v := .tuple #[.agg #[.slice (some ⟨gn, 0, none⟩) R.nodes.length capn], .bool true]) (by simp [results, Try.results48, go_sem, k0]) rfl hpost
    · simp only [List.concat_eq_append] at Rr Hk
      have hlen : (todo ++ [(p, q)]).length = todo.length + 1 := by simp
      have hwork := Rr.work
      rw [hlen] at hwork
      obtain ⟨g2, cap, rfl, hcap⟩ := own_pos hwork (by omega)
      obtain ⟨p0, p1⟩ := pair_top hwork rfl
      have hwl := (hwork.lt g2 rfl).2
      have hpop := hide (own_pop hwork)
      rw [pairCells_snoc, List.take_left' (pairCells_length todo)] at hpop
      have hmany := Rr.many
      rw [hlen] at hmany
      have hnn := Rr.st.many
      have htl : todo.length ≤ 1000000000000 := by omega
      have HR := hide Rr
      have hpq : p < R.nodes.length ∧ q < R.nodes.length := Rr.minv.lt (p, q) (by simp)
      obtain ⟨s0, t0⟩ := one_cell Rr.box
      have HF := hide (fun (i : Nat) (hi : i < R.nodes.length) W (hW : RSt W (.slice (some ⟨gn, 0, none⟩) R.nodes.length capn) ad R) => rfind_any hW HR.out.inv.forest i hi)
      clear hwork Rr hmany
      have hsl2 := fun W => run_slice_h (P := Try.prog) W 106 (some ⟨g2, 0, none⟩) (todo.length + 1) cap Try.underlying106 .i64 ((todo.length : Int)) (by omega) (by omega)
      have hwr : w.heap.size < wr.heap.size := (Array.getElem?_eq_some_iff.1 HR.out.box).1
      go_upto_region 5 with fail
      have j0 : IntKind.i64.wrap ((todo.length : Int) + 1 - 1) = (todo.length : Int) := by rw [show (todo.length : Int) + 1 - 1 = todo.length by omega]; exact IntWalk.i64_in _ (by omega)
      have j3 : IntKind.i64.wrap (todo.length : Int) = (todo.length : Int) := IntWalk.i64_in _ (by omega)
      have j4 : todo.length < todo.length + 1 := by omega
      have j1 : (0 : Int) ≤ (todo.length : Int) := by omega
      have j2 : (todo.length : Int) < (todo.length : Int) + 1 := by omega
      go_region_held3 (fun w' => w'.cell? ⟨w.heap.size, 0, none⟩ = some (.slice (some ⟨gn, 0, none⟩) R.nodes.length capn) ∧ w'.cell? ⟨g2, todo.length * 2, none⟩ = some (.int .i64 (p : Int)) ∧ w'.cell? ⟨g2, todo.length * 2 + 1, none⟩ = some (.int .i64 (q : Int))) (go_keep)
        (first | (go_at_call 60; refine (HF.out _ hpq.1 _ (HR.out.st.later (by first | exact Below.refl _ _ | exact (Below.refl _ _).drew))).mono ?_; rintro e w' ⟨rfl, hb'⟩; have r0 := (hb'.cell (p := ⟨w.heap.size, 0, none⟩) hwr).trans s0; have r1 := (hb'.cell (p := ⟨g2, todo.length * 2, none⟩) hwl).trans p0; have r2 := (hb'.cell (p := ⟨g2, todo.length * 2 + 1, none⟩) hwl).trans p1))
      have hwl1 : g2 < w'.heap.size := Nat.lt_of_lt_of_le hwl hb'.size
      have hwr1 : w.heap.size < w'.heap.size := Nat.lt_of_lt_of_le hwr hb'.size
      have Hb1 := hide ((Below.refl wr.heap.size wr).drew.trans hb')
      obtain ⟨x, hx⟩ : ∃ x, c p = x := ⟨_, rfl⟩
      simp only [hx]
      have Hx := hide hx
      clear hx s0 t0 p0 p1 hb'
      rename_i hHeld
      clear hHeld
      generalize hW1 : w' = W1' at *
      clear hW1 w'
      go_upto_region 6 with fail
      go_region_held3 (fun w' => w'.cell? ⟨w.heap.size, 0, none⟩ = some (.slice (some ⟨gn, 0, none⟩) R.nodes.length capn) ∧ w'.cell? ⟨g2, todo.length * 2, none⟩ = some (.int .i64 (p : Int)) ∧ w'.cell? ⟨g2, todo.length * 2 + 1, none⟩ = some (.int .i64 (q : Int))) (go_keep)
        (first | (go_at_call 60; refine (HF.out _ hpq.2 _ (HR.out.st.later (Hb1.out.trans (by first | exact Below.refl _ _ | exact (Below.refl _ _).drew)))).mono ?_; rintro e w' ⟨rfl, hb'⟩; have z0 := (hb'.cell (p := ⟨w.heap.size, 0, none⟩) hwr1).trans r0; have z1 := (hb'.cell (p := ⟨g2, todo.length * 2, none⟩) hwl1).trans r1; have z2 := (hb'.cell (p := ⟨g2, todo.length * 2 + 1, none⟩) hwl1).trans r2))
      rename_i hHeld
      clear hHeld
      have hb2 : Below wr.heap.size wr w' := Hb1.out.trans ((Below.refl _ _).drew.trans (hb'.mono Hb1.out.size))
      generalize hW2 : w' = W2 at *
      clear hW2 w'
      obtain ⟨y, hy⟩ : ∃ y, c q = y := ⟨_, rfl⟩
      simp only [hy]
      have Hy := hide hy
      have rx := HR.out.inv.root p hpq.1
      have ry := HR.out.inv.root q hpq.2
      rw [Hx.out] at rx; rw [hy] at ry
      have hxn := rx.1; have hyn := ry.1
      have Hrx := hide rx; have Hry := hide ry
      have H2 := hide (HR.out.st.later hb2)
      have hbox := (hb2.block w.heap.size hwr).trans HR.out.box
      have hres := (hb2.block (w.heap.size + 1) (Array.getElem?_eq_some_iff.1 HR.out.res).1).trans HR.out.res
      obtain ⟨s0, t0⟩ := one_cell hbox
      have Hbox := hide hbox; have Hres := hide hres; have Hb2 := hide hb2
      have Hpop := hide (own_keep hpop.out (fun k hk => hb2.block k (hpop.out.lt k hk).2))
      have Hbw := hide (HR.out.below.trans (hb2.mono HR.out.below.size))
      clear hy rx ry hb' z0 z1 z2 r0 r1 r2 j0 j1 j2 j3 j4 hbox hres hb2 Hb1 hwl1 hwr1 W1' hpop HF
      by_cases hxy : x = y
      · subst hxy
        have k47 : ((x : Int) == (x : Int)) = true := by simp
        go_wp2
        go_roundg (nroots (par R.up) R.nodes.length * 1000001 + todo.length)
        case measure => rw [Hk.out, hlen]; omega
        case rel => exact ⟨R, c, d, todo, rfl, ⟨H2.out, Hbox.out, Hres.out, HR.out.nodes, HR.out.inv, HR.out.minv.skip (p := p) (q := q) (by intro t; simp [or_comm]) (Hx.out.trans Hy.out.symm), HR.out.roots, Hpop.out, Hbw.out, by have := HR.out.many; rw [hlen] at this; omega⟩⟩
      · have k47 : ((x : Int) == (y : Int)) = false := by simp; omega
        obtain ⟨P, ax, hP, hax, x0, x1, x2, x3⟩ := H2.out.node hxn rfl
        obtain ⟨Q, ay, hQ, hay, y0, y1, y2, y3⟩ := H2.out.node hyn rfl
        have x4 := H2.out.free rfl (x * 4 + 3)
        have y4 := H2.out.free rfl (y * 4 + 3)
        have hgl2 : gn < W2.heap.size := H2.out.lt gn rfl
        have HP := hide hP; have HQ := hide hQ; have Hax := hide hax; have Hay := hide hay
        have HL := hide (fun (hh : P.kind ≠ 1 → Q.kind ≠ 1 → Heads P Q) x' y' hxy' => ref_link HR.out.inv HR.out.minv Hx.out Hy.out hxy HP.out HQ.out hh x' y' hxy')
        have Hg2 : Hid (g2 ≠ gn) := hide (by
          intro e
          have e1 := own_ne Hpop.out H2.out.own (by decide) g2 rfl
          exact e1 (by rw [e]; rfl))
        clear hP hQ hax hay
        by_cases hv : P.kind = 1
        · have k1 : (P.kind == 1) = true := by simpa using hv
          obtain ⟨c', d', I', M', T', N'⟩ := HL.out (fun e _ => absurd hv e) x y (.inl ⟨rfl, rfl, fun e => absurd hv e⟩)
          have hnt : newTodo todo P Q = todo := by unfold newTodo; rw [if_pos (.inl hv)]
          rw [hnt] at M'
          have HI' := hide I'; have HM' := hide M'; have HT' := hide T'; have HN' := hide N'
          clear hv hnt I' M' T' N'
          go_wp2
          have hl1 := H2.out.link rfl x y hxn hxy
          obtain ⟨W6, hW6⟩ : ∃ W6, W2.setCell ⟨gn, x * 4 + 3, none⟩ (.int .i64 (y : Int)) = W6 := ⟨_, rfl⟩
          rw [hW6] at hl1
          have hon : Only (fun k => k = gn) W2 W6 := by rw [← hW6]; exact (Only.refl (fun k => k = gn) W2).setCell (p := ⟨gn, x * 4 + 3, none⟩) (.inl rfl) _
          have Hl1 := hide hl1; have Hon := hide hon
          simp only [hW6]
          clear hW6 hl1 hon
          go_roundg (nroots (par (R.link x y).up) R.nodes.length * 1000001 + todo.length)
          case measure => rw [Hk.out, hlen]; have := HN'.out; omega
          case rel => exact ⟨R.link x y, c', d', todo, rfl, rmrel_next HR.out HI'.out HM'.out HT'.out HN'.out Hl1.out ((Hon.out.block _ (by omega) (by omega)).trans Hbox.out) ((Hon.out.block _ (Array.getElem?_eq_some_iff.1 Hres.out).1 (by omega)).trans Hres.out) (own_only Hpop.out Hon.out (fun k hk e => by simp [Value.ownBlock] at hk; exact Hg2.out (by omega))) (Only.below_trans Hbw.out Hon.out (fun k _ e => by omega) Hbw.out.size) (by rw [hlen]; omega)⟩
        · have k1 : (P.kind == 1) = false := by simpa using hv
          by_cases hv2 : Q.kind = 1
          · have k2 : (Q.kind == 1) = true := by simpa using hv2
            obtain ⟨c', d', I', M', T', N'⟩ := HL.out (fun _ e => absurd hv2 e) y x (.inr ⟨rfl, rfl, fun e => absurd hv2 e⟩)
            have hnt : newTodo todo P Q = todo := by unfold newTodo; rw [if_pos (.inr hv2)]
            rw [hnt] at M'
            have HI' := hide I'; have HM' := hide M'; have HT' := hide T'; have HN' := hide N'
            clear hv hv2 hnt I' M' T' N'
            go_wp2
            have hl1 := H2.out.link rfl y x hyn (Ne.symm hxy)
            obtain ⟨W6, hW6⟩ : ∃ W6, W2.setCell ⟨gn, y * 4 + 3, none⟩ (.int .i64 (x : Int)) = W6 := ⟨_, rfl⟩
            rw [hW6] at hl1
            have hon : Only (fun k => k = gn) W2 W6 := by rw [← hW6]; exact (Only.refl (fun k => k = gn) W2).setCell (p := ⟨gn, y * 4 + 3, none⟩) (.inl rfl) _
            have Hl1 := hide hl1; have Hon := hide hon
            simp only [hW6]
            clear hW6 hl1 hon
            go_roundg (nroots (par (R.link y x).up) R.nodes.length * 1000001 + todo.length)
            case measure => rw [Hk.out, hlen]; have := HN'.out; omega
            case rel => exact ⟨R.link y x, c', d', todo, rfl, rmrel_next HR.out HI'.out HM'.out HT'.out HN'.out Hl1.out ((Hon.out.block _ (by omega) (by omega)).trans Hbox.out) ((Hon.out.block _ (Array.getElem?_eq_some_iff.1 Hres.out).1 (by omega)).trans Hres.out) (own_only Hpop.out Hon.out (fun k hk e => by simp [Value.ownBlock] at hk; exact Hg2.out (by omega))) (Only.below_trans Hbw.out Hon.out (fun k _ e => by omega) Hbw.out.size) (by rw [hlen]; omega)⟩
          · have k2 : (Q.kind == 1) = false := by simpa using hv2
            have Hv1 := hide hv; have Hv2 := hide hv2
            have hw2 : w.heap.size < W2.heap.size := (Array.getElem?_eq_some_iff.1 Hbox.out).1
            have hw3 : w.heap.size + 1 < W2.heap.size := (Array.getElem?_eq_some_iff.1 Hres.out).1
            clear hv hv2
            by_cases hh : Heads P Q
            · have Hhh := hide hh
              obtain ⟨c', d', I', M', T', N'⟩ := HL.out (fun _ _ => hh) x y (.inl ⟨rfl, rfl, fun _ => Hv2.out⟩)
              have k3 : (P.kind != Q.kind) = false := by simpa using hh.1
              have k4 : P.name.toList = Q.name.toList := by rw [hh.2.1]
              have k5 : ((P.args.length : Int) != (Q.args.length : Int)) = false := by have := hh.2.2; simp; omega
              have HQl : Hid (Q.args.length = P.args.length) := hide hh.2.2.symm
              have hPf := HR.out.st.few _ _ HP.out
              have HI' := hide I'; have HM' := hide M'; have HT' := hide T'; have HN' := hide N'
              clear hh I' M' T' N' HL
              go_upto_region 17 with fail
              obtain ⟨W3, hW3⟩ : ∃ W3, (W2.alloc (.cells #[.int .i64 P.kind, .string P.name, .slice ax.1 P.args.length ax.2, .int .i64 (linkOf R.up x)] 91)).alloc (.cells #[.int .i64 Q.kind, .string Q.name, .slice ay.1 Q.args.length ay.2, .int .i64 (linkOf R.up y)] 91) = W3 := ⟨_, rfl⟩
              have hb3 : Below W2.heap.size W2 W3 := by rw [← hW3]; exact ((Below.refl _ _).alloc (Nat.le_refl _) _).alloc (by simp) _
              have hz3 : W3.heap.size = W2.heap.size + 2 := by rw [← hW3]; simp
              have B12 : W3.heap[W2.heap.size]? = some (.cells #[.int .i64 P.kind, .string P.name, .slice ax.1 P.args.length ax.2, .int .i64 (linkOf R.up x)] 91 (0, 0)) := by rw [← hW3, Below.heap_alloc _ _ _ (by simp)]; exact heap_alloc_new W2 _
              have B13 : W3.heap[W2.heap.size + 1]? = some (.cells #[.int .i64 Q.kind, .string Q.name, .slice ay.1 Q.args.length ay.2, .int .i64 (linkOf R.up y)] 91 (0, 0)) := by
                rw [← hW3]; have := heap_alloc_new (W2.alloc (.cells #[.int .i64 P.kind, .string P.name, .slice ax.1 P.args.length ax.2, .int .i64 (linkOf R.up x)] 91)) (.cells #[.int .i64 Q.kind, .string Q.name, .slice ay.1 Q.args.length ay.2, .int .i64 (linkOf R.up y)] 91); rw [World.size_alloc] at this; exact this
              have H3 := hide (H2.out.later hb3)
              have z0 := H3.out.linkAt rfl x hxn
              have z1 := H3.out.free rfl (x * 4 + 3)
              obtain ⟨s0', t0'⟩ := one_cell ((hb3.block w.heap.size hw2).trans Hbox.out)
              simp only [hW3]
              clear hW3 x0 x1 x2 x3 x4 y0 y1 y2 y3 y4 s0 t0 k3 k4 k5 k1 k2
              go_upto_region 18 with fail
              have hl1 := H3.out.link rfl x y hxn hxy
              obtain ⟨W4, hW4⟩ : ∃ W4, W3.setCell ⟨gn, x * 4 + 3, none⟩ (.int .i64 (y : Int)) = W4 := ⟨_, rfl⟩
              rw [hW4] at hl1
              have hon : Only (fun k => k = gn) W3 W4 := by rw [← hW4]; exact (Only.refl (fun k => k = gn) W3).setCell (p := ⟨gn, x * 4 + 3, none⟩) (.inl rfl) _
              have A4 : Hid (RARel w W2 ad gn capn (R.link x y) P Q ax ay (linkOf R.up x) (linkOf R.up y) todo (.slice (some ⟨g2, 0, none⟩) todo.length cap) 0 W4) := hide (by
                have hg2 := Hg2.out
                have hp2 := Hpop.out.lt g2 rfl
                refine ⟨hl1, (hon.block _ (by omega) (by omega)).trans ((hb3.block _ hw2).trans Hbox.out), (hon.block _ (by omega) (by omega)).trans ((hb3.block _ hw3).trans Hres.out), ?_, Only.below_trans (Hbw.out.trans (hb3.mono (by omega))) hon (fun k _ e => by omega) (by omega), (hon.block _ (by omega) (by omega)).trans B12, (hon.block _ (by omega) (by omega)).trans B13⟩
                have h1 := own_keep Hpop.out (fun k hk => hb3.block k (Hpop.out.lt k hk).2)
                have h2 := own_only h1 hon (fun k hk e => by simp [Value.ownBlock] at hk; exact hg2 (by omega))
                simpa using h2)
              have x2 : W4.cell? ⟨W2.heap.size, 2, none⟩ = some (.slice ax.1 P.args.length ax.2) := (four_cells A4.out.b12).2.2.1
              simp only [hW4]
              clear hW4 hl1 hon z0 z1 s0' t0' B12 B13 hb3
              go_wp2
              go_loopw [9, 14] (fun vw vi wq => ∃ k : Nat, vi = .int .i64 k ∧ k ≤ P.args.length ∧ RARel w W2 ad gn capn (R.link x y) P Q ax ay (linkOf R.up x) (linkOf R.up y) todo vw k wq) (fun _ vi _ => P.args.length - (intOf vi).toNat)
              case atStart => exact ⟨0, rfl, by omega, A4.out⟩
              case round =>
                obtain ⟨k, rfl, hk, AR⟩ := hrel
                clear x2 A4
                have x2 : wr.cell? ⟨W2.heap.size, 2, none⟩ = some (.slice ax.1 P.args.length ax.2) := (four_cells AR.b12).2.2.1
                have y2 : wr.cell? ⟨W2.heap.size + 1, 2, none⟩ = some (.slice ay.1 Q.args.length ay.2) := (four_cells AR.b13).2.2.1
                by_cases hlt : k < P.args.length
                · have hltq : k < Q.args.length := by have := HQl.out; omega
                  obtain ⟨b1, o1, hb1, -, c1⟩ := (AR.st.args x P ax HP.out Hax.out).1.at_ k (by simpa [cast] using hlt)
                  obtain ⟨b2, o2, hb2, -, c2⟩ := (AR.st.args y Q ay HQ.out Hay.out).1.at_ k (by simpa [cast] using hltq)
                  simp only [cast, List.getElem_map] at c1 c2
                  obtain ⟨u, hu⟩ : ∃ u, P.args[k] = u := ⟨_, rfl⟩
                  obtain ⟨v, hv⟩ : ∃ v, Q.args[k] = v := ⟨_, rfl⟩
                  rw [hu] at c1; rw [hv] at c2
                  have Hu := hide hu; have Hvv := hide hv
                  rw [hb1] at x2
                  rw [hb2] at y2
                  have hQf := HR.out.st.few _ _ HQ.out
                  have WK := hide (AR.work.alloc (.cells #[.int .i64 (u : Int), .int .i64 (v : Int)] 105)).drew
                  have N8 : Hid (∀ j t, [Value.int .i64 (u : Int), .int .i64 (v : Int)][j]? = some t → ((wr.alloc (.cells #[.int .i64 (u : Int), .int .i64 (v : Int)] 105)).drew).cell? ((⟨wr.heap.size, 0, none⟩ : Addr).add j) = some t) := hide (two_new wr (.int .i64 (u : Int)) (.int .i64 (v : Int)) 105)
                  have E8 : Hid (∀ t ∈ [Value.int .i64 (u : Int), .int .i64 (v : Int)], t.oneCell' = true) := hide (by simp [Value.oneCell'])
                  have hz8 : w.heap.size ≤ wr.heap.size := AR.below.size
                  have HAR := hide AR
                  have hkl : (k : Int) < (P.args.length : Int) := by omega
                  have hkq : (k : Int) < (Q.args.length : Int) := by omega
                  have hk0 : (0 : Int) ≤ (k : Int) := by omega
                  have l1 : W2.heap.size < wr.heap.size := (Array.getElem?_eq_some_iff.1 AR.b12).1
                  have l2 : W2.heap.size + 1 < wr.heap.size := (Array.getElem?_eq_some_iff.1 AR.b13).1
                  clear hb1 hb2 hu hv AR
                  go_upto_region 21 with fail
                  go_region_law ((refine step_append_lies _ (by rfl) (.tmp 125) (.tmp 137) 106 (by rfl) w.heap.size 105 i2 (.agg #[.int .i64 0, .int .i64 0]) 2 16 Try.underlying106 Ki.out Kz0.out Kz1.out Kz2.out rfl (by decide) u9 (todo.length + k) (pairCells (todo ++ (P.args.zip Q.args).take k)) (by rfl) WK.out ⟨wr.heap.size, 0, none⟩ 1 1 [.int .i64 (u : Int), .int .i64 (v : Int)] (by rfl) (by rfl) N8.out E8.out (by decide) (by simp only [maxLen]; omega) (by omega) (by simp [World.drew]; omega) (wr.heap.size + 1) (by simp [World.drew]) ?_; intro g8 cap8 W8 own8 grow8 at8 lt8; have Hown8 := hide own8; have Hgrow8 := hide grow8; have Hat8 := hide at8; clear own8 grow8 at8))
                  all_goals
                    go_wp2
                    go_roundw
                    case measure => simp [intOf]; omega
                    case rel =>
                      have hon : Only (fun b => u9.ownBlock = some b) wr W8 := by
                        have h1 : Only (fun b => u9.ownBlock = some b) wr ((wr.alloc (.cells #[.int .i64 (u : Int), .int .i64 (v : Int)] 105)).drew) := ((Only.refl _ wr).alloc _).drew
                        exact h1.grown Hgrow8.out (fun b hb => .inl hb)
                      have hno : ∀ z t (cs : Array Value), wr.heap[z]? = some (.cells cs t (0, 0)) → 105 ≠ t → ¬ u9.ownBlock = some z := fun z t cs hz hne e => own_blk HAR.out.work hz hne e
                      have hgb : u9.ownBlock ≠ some gn := own_ne HAR.out.st.own HAR.out.work (by decide) gn rfl
                      have hAd : ∀ (i : Nat) (a : Option Addr × Nat), ad[i]? = some a → ∀ z, a.1 = some z → ¬ u9.ownBlock = some z.block := fun i a ha z hz e => by
                        have h1 := Hh.out.adlt i a ha z hz
                        have h2 := (HAR.out.work.lt _ e).1
                        omega
                      refine ⟨k + 1, by go_num, by omega, HAR.out.st.only hon (fun b hb e => ?_) hAd, (hon.block _ (by omega) (hno _ _ _ HAR.out.box (by decide))).trans HAR.out.box, (hon.block _ (Array.getElem?_eq_some_iff.1 HAR.out.res).1 (hno _ _ _ HAR.out.res (by decide))).trans HAR.out.res, ?_, Only.below_trans HAR.out.below hon (fun b _ e => (HAR.out.work.lt b e).1) HAR.out.below.size, (hon.block _ l1 (hno _ _ _ HAR.out.b12 (by decide))).trans HAR.out.b12, (hon.block _ l2 (hno _ _ _ HAR.out.b13 (by decide))).trans HAR.out.b13⟩
                      · simp [Value.ownBlock] at hb; subst hb; exact hgb e
                      · have hz : (P.args.zip Q.args)[k]? = some (u, v) := by rw [List.getElem?_zip_eq_some]; exact ⟨by rw [List.getElem?_eq_getElem hlt, Hu.out], by rw [List.getElem?_eq_getElem hltq, Hvv.out]⟩
                        rw [List.take_add_one, hz, Option.toList_some, ← List.append_assoc, pairCells_snoc, ← Nat.add_assoc]
                        exact Hown8.out
                · have HAR := hide AR
                  have hP2 := HQl.out
                  obtain rfl : k = P.args.length := by omega
                  clear AR hP2
                  go_wp2
                  go_roundg (nroots (par (R.link x y).up) R.nodes.length * 1000001 + (todo.length + P.args.length))
                  case measure => rw [Hk.out, hlen]; have := HN'.out; omega
                  case rel =>
                    have hzl : (P.args.zip Q.args).length = P.args.length := by rw [List.length_zip, HQl.out, Nat.min_self]
                    have hnt : newTodo todo P Q = todo ++ P.args.zip Q.args := by unfold newTodo; rw [if_neg (by rintro (e | e); exact Hv1.out e; exact Hv2.out e)]
                    have hM := HM'.out
                    rw [hnt] at hM
                    have hwk := HAR.out.work
                    rw [List.take_of_length_le (by omega), ← hzl, ← List.length_append] at hwk
                    refine ⟨R.link x y, c', d', todo ++ P.args.zip Q.args, ?_, rmrel_next HR.out HI'.out hM HT'.out HN'.out HAR.out.st HAR.out.box HAR.out.res hwk HAR.out.below ?_⟩
                    · rw [List.length_append, hzl]; rfl
                    · rw [hlen, List.length_append, hzl]; omega
            · have Hh2 := hide hh
              have hcase : ((P.kind != Q.kind) = true) ∨ ((P.kind != Q.kind) = false ∧ ¬ P.name.toList = Q.name.toList) ∨ ((P.kind != Q.kind) = false ∧ P.name.toList = Q.name.toList ∧ ((P.args.length : Int) != (Q.args.length : Int)) = true) := by
                by_cases e1 : P.kind = Q.kind
                · by_cases e2 : P.name = Q.name
                  · refine .inr (.inr ⟨by simpa using e1, by rw [e2], ?_⟩)
                    have e3 : P.args.length ≠ Q.args.length := fun e3 => hh ⟨e1, e2, e3⟩
                    simp; omega
                  · exact .inr (.inl ⟨by simpa using e1, fun e3 => e2 (bytes_inj e3)⟩)
                · exact .inl (by simpa using e1)
              clear hh
              obtain ⟨s1, t1⟩ := one_cell Hres.out
              rcases hcase with k3 | ⟨k3, k4⟩ | ⟨k3, k4, k5⟩
              all_goals
                go_wp2
                have hz4 := blk_set Hres.out 0 (.slice (some ⟨gn, 0, none⟩) R.nodes.length capn)
                obtain ⟨W5, hW5⟩ : ∃ W5, ((W2.setCell ⟨w.heap.size + 1, 0, none⟩ (.slice (some ⟨gn, 0, none⟩) R.nodes.length capn)).alloc (.cells #[.int .i64 P.kind, .string P.name, .slice ax.1 P.args.length ax.2, .int .i64 (linkOf R.up x)] 91)).alloc (.cells #[.int .i64 Q.kind, .string Q.name, .slice ay.1 Q.args.length ay.2, .int .i64 (linkOf R.up y)] 91) = W5 := ⟨_, rfl⟩
                have hon : Only (fun k => k = w.heap.size + 1) W2 W5 := by
                  rw [← hW5]
                  exact (((Only.refl (fun k => k = w.heap.size + 1) W2).setCell (p := ⟨w.heap.size + 1, 0, none⟩) (.inl rfl) _).alloc _).alloc _
                have hz5 : W5.heap[w.heap.size + 1]? = some (.cells #[.slice (some ⟨gn, 0, none⟩) R.nodes.length capn] 29 (0, 0)) := by
                  rw [← hW5, Below.heap_alloc _ _ _ (by simp [World.setCell]; omega), Below.heap_alloc _ _ _ (by simp [World.setCell]; omega)]
                  exact hz4
                have hpost : RMergedPost w ad R0 c0 a b (.returned (.tuple #[.agg #[.slice (some ⟨gn, 0, none⟩) R.nodes.length capn], .bool false])) W5 :=
                  ⟨_, R, c, d, false, rfl, H2.out.only hon (fun k hk e => by simp [Value.ownBlock] at hk; omega) (fun i x hx z hz e => by have := Hh.out.adlt i x hx z hz; omega), HR.out.nodes, HR.out.inv, fun k hk => (by simp [Value.ownBlock] at hk; omega), Only.below_trans Hbw.out hon (fun k _ e => by omega) Hbw.out.size, .inr ⟨rfl, HR.out.minv.clash (p := p) (q := q) (by simp) Hx.out Hy.out (HR.out.inv.forms x hxn Hrx.out.2.2) (HR.out.inv.forms y hyn Hry.out.2.2) HP.out HQ.out Hv1.out Hv2.out Hh2.out⟩⟩
                obtain ⟨k0, -⟩ := one_cell hz5
                simp only [hW5]
                clear hW5 hz5 hz4 hon
                exact bodyPost_ret (v := .tuple #[.agg #[.slice (some ⟨gn, 0, none⟩) R.nodes.length capn], .bool false]) (by simp [results, Try.results48, go_sem, k0]) rfl hpost
end Go.Proofs.Ytafpbdmggnfdnaa

/- The reference's store: rounds (a search for cycles that calls itself). -/
namespace Go.Proofs.Ytafpbdmggnfdnaa
open Go.RowKit
set_option linter.unusedVariables false

/-- A slice of numbers of one's own, of a fixed length. -/
def Arr (w : World) (g : Nat) (l : List Nat) : Prop := w.ownsRow 0 3 1 (.slice (some ⟨g, 0, none⟩) l.length l.length) l.length (nats l)
section
variable {w w' : World} {g : Nat} {l : List Nat}
theorem Arr.cell (h : Arr w g l) (i : Nat) (hi : i < l.length) : w.cell? ⟨g, i, none⟩ = some (.int .i64 (par l i : Int)) := by
  have := own_nat h rfl i hi
  rwa [par_at hi] at this
theorem Arr.lt (h : Arr w g l) : g < w.heap.size := (World.ownsRow.lt h g rfl).2
theorem Arr.free (h : Arr w g l) (j : Nat) : w.frozen? ⟨g, j, none⟩ = false := by
  rcases h.2 with ⟨h1, _⟩ | ⟨g', cap', cur, h1, _, h3, _⟩
  · cases h1
  · injection h1 with h1 _ _
    injection h1 with h1
    injection h1 with h1
    subst h1
    simp [World.frozen?, h3]
theorem Arr.keep (h : Arr w g l) (hk : w'.heap[g]? = w.heap[g]?) : Arr w' g l := own_keep h fun b hb => by
  have : g = b := by simpa [Value.ownBlock] using hb
  rw [← this]; exact hk
theorem Arr.set (h : Arr w g l) (i n : Nat) : Arr (w.setCell ⟨g, i, none⟩ (.int .i64 (n : Int))) g (l.set i n) := by
  have := (World.ownsRow.stored h i (.int .i64 (n : Int))).1
  rw [← nats_set] at this
  unfold Arr
  rw [List.length_set]
  exact this
theorem Arr.new (w : World) (n : Nat) (hn : n ≤ maxLen) : Arr (w.alloc (.cells (Array.replicate n (.int .i64 0)) 3)) w.heap.size (List.replicate n 0) := by
  have := World.ownsRow_lit (base := 0) (e := 3) (size := 1) w (Array.replicate n (.int .i64 0)) n (Nat.zero_le _) hn (by simp)
  unfold Arr
  have e : nats (List.replicate n 0) = (Array.replicate n (Value.int .i64 0)).toList := by simp [nats]
  rw [e]
  simpa using this
end
def rargs (N : List Nd) (m : Nat) : List Nat := match N[m]? with | some p => p.args | none => []
theorem rargs_eq {N : List Nd} {m : Nat} {p : Nd} (h : N[m]? = some p) : rargs N m = p.args := by unfold rargs; rw [h]
theorem par_updN (l : List Nat) (i v : Nat) (hi : i < l.length) : par (l.set i v) = updN (par l) i v := by
  funext j; rw [par_set _ _ _ _ hi]; rfl

def RRSaid (R : RS) (c : Nat → Nat) (gs : Nat) (l : List Nat) (x : Nat) (r : Bool) (w' : World) : Prop :=
  (r = true ∧ ¬ ∃ g, Meas R.nodes.length c (rargs R.nodes) g) ∨
    (r = false ∧ ∃ l' fin' t', l'.length = R.nodes.length ∧ Arr w' gs l' ∧ Fine R.nodes.length c (rargs R.nodes) (par l') fin' t' ∧ Went (par l) (par l') ∧ par l' (c x) = 2)
def RRPost (w : World) (R : RS) (c : Nat → Nat) (gs : Nat) (l : List Nat) (x : Nat) (e : Ending) (w' : World) : Prop :=
  ∃ r : Bool, e = .returned (.bool r) ∧ Only (fun b => b = gs) w w' ∧ RRSaid R c gs l x r w'
/-- At the head of a round over the arguments. -/
structure RRel (W1 : World) (R : RS) (c : Nat → Nat) (gs : Nat) (l : List Nat) (args : List Nat) (li : List Nat) (fin : Nat → Nat) (t i : Nat) (wr : World) : Prop where
  only : Only (fun b => b = gs) W1 wr
  len : li.length = R.nodes.length
  arr : Arr wr gs li
  fine : Fine R.nodes.length c (rargs R.nodes) (par li) fin t
  went : Went (par l) (par li)
  done : ∀ (j x : Nat), j < i → args[j]? = some x → par li (c x) = 2
set_option maxRecDepth 100000 in
set_option maxHeartbeats 4000000 in
theorem rrounds_any {v : Value} {ad : List (Option Addr × Nat)} {R : RS} {c d : Nat → Nat} (hi : RInv R c d) (gs : Nat) (hvg : v.ownBlock ≠ some gs) (hag : ∀ (i : Nat) (a : Option Addr × Nat), ad[i]? = some a → ∀ z, a.1 = some z → z.block ≠ gs) (k : Nat) : ∀ (x : Nat) (fin : Nat → Nat) (t : Nat) (l : List Nat) (w : World), zeros (par l) R.nodes.length = k → x < R.nodes.length → l.length = R.nodes.length → RSt w v ad R → Arr w gs l → Fine R.nodes.length c (rargs R.nodes) (par l) fin t → Above R.nodes.length c (rargs R.nodes) (par l) (c x) →
    Calls Try.prog 58 #[.agg #[v], .int .i64 (x : Int), .slice (some ⟨gs, 0, none⟩) l.length l.length] w (RRPost w R c gs l x) := by
  induction k using Nat.strongRecOn with
  | ind k ih =>
    intro x fin t l w hk hx hl h ha hf hab
    obtain ⟨g, cap0, hv0, hcap0⟩ := own_pos h.own (by omega)
    subst hv0
    have hm := h.many
    have hgl : g < w.heap.size := h.lt g rfl
    have hgsl := ha.lt
    have hroot := hi.root x hx
    have hb1 : Below w.heap.size w (w.alloc (.cells #[.slice (some ⟨g, 0, none⟩) R.nodes.length cap0] 29)) := (Below.refl _ _).alloc (Nat.le_refl _) _
    have HF := hide (rfind_any (h.later hb1) hi.forest x hx)
    have hbox := heap_alloc_new w (.cells #[.slice (some ⟨g, 0, none⟩) R.nodes.length cap0] 29)
    have hz1 : (w.alloc (.cells #[.slice (some ⟨g, 0, none⟩) R.nodes.length cap0] 29)).heap.size = w.heap.size + 1 := World.size_alloc _ _
    obtain ⟨W0, hW0⟩ : ∃ W0, w.alloc (.cells #[.slice (some ⟨g, 0, none⟩) R.nodes.length cap0] 29) = W0 := ⟨_, rfl⟩
    rw [hW0] at hb1 HF hbox hz1
    have HW0 := hide hW0; have Hb1 := hide hb1; have Hbox := hide hbox; have Hh := hide h; have Ha := hide ha; have Hf := hide hf; have Hab := hide hab; have Hi := hide hi; have IH := hide ih; have Hk := hide hk; have Hl := hide hl; have Hag := hide hag; have Hvg := hide hvg; have Hz1 := hide hz1
    clear hW0 hb1 hbox h ha hf hab hi ih hk hag hvg hz1
    obtain ⟨r, hr⟩ : ∃ r, c x = r := ⟨_, rfl⟩
    rw [hr] at HF hroot Hab
    have Hr := hide hr
    have hrn := hroot.1
    have Hroot := hide hroot
    have hll : l.length ≤ 1000000 := by omega
    have hrl : r < l.length := by omega
    clear hr hroot hl
    go_enter Try.func58, Try.ntmps58
    go_wp2_with fail
    rw [HW0.out]
    refine HF.out.mono ?_
    rintro e W1 ⟨rfl, hb2⟩
    have hz1 := Hz1.out
    have hz2 := hb2.size
    have Hb2 := hide hb2
    have Hbw := hide (Hb1.out.trans (hb2.mono (by omega)))
    have Harr := hide (Ha.out.keep (Hbw.out.block gs hgsl))
    have c1 := Harr.out.cell r hrl
    have f1 := Harr.out.free r
    have hgs1 : gs < W1.heap.size := by omega
    clear hb2 hz1 hz2
    rcases (show par l r = 0 ∨ par l r = 1 ∨ par l r = 2 by have := Hf.out.small r; omega) with h0 | h0 | h0
    · rw [h0] at c1
      have H0 := hide h0
      obtain ⟨P, ax, hP, hax, -⟩ := Hh.out.node hrn rfl
      have HP := hide hP; have Hax := hide hax
      have hPf := Hh.out.few _ _ hP
      have HA : Hid (rargs R.nodes r = P.args) := hide (rargs_eq hP)
      clear h0 hP hax
      go_upto_region 5 with fail
      obtain ⟨W2, hW2⟩ : ∃ W2, W1.setCell ⟨gs, r, none⟩ (.int .i64 1) = W2 := ⟨_, rfl⟩
      have hon2 : Only (fun b => b = gs) W1 W2 := by rw [← hW2]; exact (Only.refl (fun b => b = gs) W1).setCell (p := ⟨gs, r, none⟩) (.inl rfl) _
      have harr2 : Arr W2 gs (l.set r 1) := by rw [← hW2]; exact Harr.out.set r 1
      have hz1 := Hz1.out
      have hz2 := Hb2.out.size
      have hz3 := hon2.size
      have hst2 : RSt W2 (.slice (some ⟨g, 0, none⟩) R.nodes.length cap0) ad R := (Hh.out.later Hbw.out).only hon2 (fun b hb e => Hvg.out (by rw [hb, e])) (fun i a ha z hz e => Hag.out i a ha z hz e)
      have hbox2 : W2.heap[w.heap.size]? = some (.cells #[.slice (some ⟨g, 0, none⟩) R.nodes.length cap0] 29 (0, 0)) := (hon2.block _ (by omega) (by omega)).trans ((Hb2.out.block _ (by omega)).trans Hbox.out)
      have Hst2 := hide hst2; have Hbox2 := hide hbox2; have Hon2 := hide hon2
      have HR2 : Hid (RRel W2 R c gs (l.set r 1) P.args (l.set r 1) fin t 0 W2) := hide ⟨Only.refl _ _, by rw [List.length_set]; exact Hl.out, harr2, by rw [par_updN _ _ _ hrl]; exact Hf.out.open_ H0.out, Went.refl _, fun j x hj => by omega⟩
      have Hzs : Hid (zeros (par (l.set r 1)) R.nodes.length < k) := hide (by
        rw [par_updN _ _ _ hrl]
        have := zeros_set (par l) r 1 R.nodes.length hrn H0.out (by decide)
        have := Hk.out; omega)
      have hw2 : w.heap.size < W2.heap.size := by omega
      simp only [hW2]
      clear hW2 c1 f1 hz1 hz2 hz3 hst2 hbox2 hon2 harr2
      go_wp2
      go_loopw [7] (fun vi wr => ∃ (i : Nat) (li : List Nat) (fin' : Nat → Nat) (t' : Nat), vi = .int .i64 i ∧ i ≤ P.args.length ∧ RRel W2 R c gs (l.set r 1) P.args li fin' t' i wr) (fun vi _ => P.args.length - (intOf vi).toNat)
      case atStart => exact ⟨0, l.set r 1, fin, t, rfl, by omega, HR2.out⟩
      case round =>
        obtain ⟨i, li, fin', t', rfl, hi, Rr⟩ := hrel
        have hst := Hst2.out.only Rr.only (fun b hb e => Hvg.out (by rw [hb, e])) (fun i a ha z hz e => Hag.out i a ha z hz e)
        have hwgs : w.heap.size ≠ gs := by omega
        obtain ⟨s0, t0⟩ := one_cell ((Rr.only.block _ hw2 hwgs).trans Hbox2.out)
        obtain ⟨P', ax', hP', hax', n0, n1, n2, n3⟩ := hst.node hrn rfl
        obtain rfl : P = P' := by have := HP.out; rw [this] at hP'; injection hP'
        obtain rfl : ax = ax' := by have := Hax.out; rw [this] at hax'; injection hax'
        have HRr := hide Rr; have Hst := hide hst
        clear hP' hax' Rr hst HR2
        by_cases hlt : i < P.args.length
        · obtain ⟨b1, o1, hb1, -, e1⟩ := (Hst.out.args r P ax HP.out Hax.out).1.at_ i (by simpa [cast] using hlt)
          simp only [cast, List.getElem_map] at e1
          obtain ⟨y, hy⟩ : ∃ y, P.args[i] = y := ⟨_, rfl⟩
          rw [hy] at e1
          have hyi : P.args[i]? = some y := by rw [List.getElem?_eq_getElem hlt, hy]
          have hyn : y < R.nodes.length := Hi.out.wf.arg_lt HP.out hyi
          have Hyi := hide hyi
          have hbg : b1 ≠ gs := Hag.out r ax Hax.out _ hb1
          have HC := hide (fun W (hW : Below wr.heap.size wr W) => IH.out (zeros (par li) R.nodes.length) (Nat.lt_of_le_of_lt (HRr.out.went.zeros HRr.out.fine.small (by rw [par_updN _ _ _ hrl]; exact (Hf.out.open_ H0.out).small)) Hzs.out) y fin' t' li W rfl hyn HRr.out.len (Hst.out.later hW) (HRr.out.arr.keep (hW.block gs HRr.out.arr.lt)) HRr.out.fine (by
            refine Above.same (st := par (l.set r 1)) ?_ (fun m hm => (HRr.out.went.opened m).1 hm)
            rw [par_updN _ _ _ hrl]
            exact Hab.out.child hrn Hroot.out.2.2 (by rw [HA.out]; exact List.mem_of_getElem? hyi)))
          rw [hb1] at n2
          have hlil : li.length = l.length := by rw [HRr.out.len, Hl.out]
          simp only [hlil] at HC
          have hgg : g ≠ gs := by have := Hvg.out; intro e; exact this (by rw [e]; rfl)
          have lg : g < wr.heap.size := Hst.out.lt g rfl
          have lw : w.heap.size < wr.heap.size := by have := HRr.out.only.size; omega
          have lb : b1 < wr.heap.size := Hst.out.adlt r ax Hax.out _ hb1
          clear hb1 hy hyi n0 n1 n3 hlil
          go_upto_region 8 with fail
          go_region_held3 (fun w' => w'.cell? ⟨w.heap.size, 0, none⟩ = some (.slice (some ⟨g, 0, none⟩) R.nodes.length cap0) ∧ w'.cell? ⟨g, r * 4 + 2, none⟩ = some (.slice (some ⟨b1, o1, none⟩) P.args.length ax.2) ∧ w'.cell? ⟨b1, o1 + i, none⟩ = some (.int .i64 (y : Int))) (go_keep)
            (first | (go_at_call 58; refine (HC.out _ (by first | exact Below.refl _ _ | exact (Below.refl _ _).drew)).mono ?_; rintro e w' ⟨rb, rfl, ho', hsaid⟩; have r0 := (ho'.cell (p := ⟨w.heap.size, 0, none⟩) lw hwgs).trans s0; have r1 := (ho'.cell (p := ⟨g, r * 4 + 2, none⟩) lg hgg).trans n2; have r2 := (ho'.cell (p := ⟨b1, o1 + i, none⟩) lb hbg).trans e1; have Hsaid := hide hsaid; clear hsaid))
          have Ho' : Hid (Only (fun b => b = gs) W2 w') := hide (HRr.out.only.trans ((Only.refl _ _).drew.trans ho'))
          rename_i hHeld
          clear hHeld ho' s0 t0 n2 e1
          cases rb
          · obtain ⟨h1, -⟩ | ⟨-, l', f', t2, hl', harr', hfine', hwent', hdone'⟩ := Hsaid.out
            · cases h1
            have HN : Hid (RRel W2 R c gs (l.set r 1) P.args l' f' t2 (i + 1) w') := hide ⟨Ho'.out, hl', harr', hfine', HRr.out.went.trans hwent', fun j x hj hx => by
              by_cases e : j = i
              · subst e
                have h2 := Hyi.out
                rw [h2] at hx; injection hx with hx; subst hx; exact hdone'
              · exact hwent'.kept _ (HRr.out.done j x (by omega) hx)⟩
            clear r0 r1 r2 hl' harr' hfine' hwent' hdone'
            go_wp2
            go_roundw
            case measure => simp [intOf]; omega
            case rel => exact ⟨i + 1, l', f', t2, by go_num, by omega, HN.out⟩
          · have Hno : Hid (¬ ∃ g, Meas R.nodes.length c (rargs R.nodes) g) := hide (by
              obtain ⟨-, h1⟩ | ⟨h1, -⟩ := Hsaid.out
              · exact h1
              · cases h1)
            clear r0 r1 r2
            go_wp2
            go_ret
            exact ⟨true, rfl, ((Only.of_below Hbw.out _).trans Hon2.out).trans Ho'.out, .inl ⟨rfl, Hno.out⟩⟩
        · obtain rfl : i = P.args.length := by omega
          have q1 := HRr.out.arr.cell r (by rw [HRr.out.len]; exact hrn)
          have q2 := HRr.out.arr.free r
          have lg2 : gs < wr.heap.size := HRr.out.arr.lt
          go_wp2
          go_ret
          have hst1 : par li r = 1 := (HRr.out.went.opened r).2 (by rw [par_updN _ _ _ hrl, updN_same])
          have hlr : r < li.length := by rw [HRr.out.len]; exact hrn
          have hcl := HRr.out.fine.close hst1 hrn (fun x hx => by
            rw [HA.out] at hx
            obtain ⟨j, hj⟩ := List.mem_iff_getElem?.1 hx
            exact HRr.out.done j x (List.getElem?_eq_some_iff.1 hj).1 hj)
          have hw := HRr.out.went
          rw [par_updN _ _ _ hrl] at hw
          refine ⟨false, rfl, (((Only.of_below Hbw.out _).trans Hon2.out).trans HRr.out.only).setCell (.inl rfl) _, .inr ⟨rfl, li.set r 2, _, _, by rw [List.length_set]; exact HRr.out.len, HRr.out.arr.set r 2, by rw [par_updN _ _ _ hlr]; exact hcl, by rw [par_updN _ _ _ hlr]; exact hw.close H0.out, by rw [Hr.out, par_updN _ _ _ hlr, updN_same]⟩⟩
    · rw [h0] at c1
      have H1 := hide (Hab.out.none h0)
      clear h0
      go_wp2
      go_ret
      exact ⟨true, rfl, Only.of_below Hbw.out _, .inl ⟨rfl, H1.out⟩⟩
    · rw [h0] at c1
      have H0 := hide h0
      clear h0
      go_wp2
      go_ret
      exact ⟨false, rfl, Only.of_below Hbw.out _, .inr ⟨rfl, l, fin, t, Hl.out, Harr.out, Hf.out, Went.refl _, by rw [Hr.out]; exact H0.out⟩⟩
end Go.Proofs.Ytafpbdmggnfdnaa

/- The reference's store: Unify. -/
namespace Go.Proofs.Ytafpbdmggnfdnaa
open Go.RowKit
set_option linter.unusedVariables false

def RUniPost (w : World) (v : Value) (ad : List (Option Addr × Nat)) (R : RS) (c : Nat → Nat) (a b : Int) (e : Ending) (w' : World) : Prop :=
  ∃ (err : Int) (v' : Value) (R' : RS) (c' d' : Nat → Nat), e = .returned (.tuple #[.agg #[v'], .int .i64 err]) ∧ RSt w' v' ad R' ∧ R'.nodes = R.nodes ∧ ROk R' c' d' ∧ Below w.heap.size w w' ∧ UniSaid R.nodes c a b err c' ∧ (v' = v ∨ ∀ b, v'.ownBlock = some b → w.heap.size ≤ b)
theorem allIn_inB (n : Nat) (a b : Int) : allIn n [a, b] = (inB n a && inB n b) := by simp [allIn, inB]
theorem runi_no {w w' : World} {v : Value} {ad : List (Option Addr × Nat)} {R : RS} {c d : Nat → Nat} {a b err : Int} (h : RSt w v ad R) (hi : ROk R c d) (hb : Below w.heap.size w w') (hs : UniSaid R.nodes c a b err c) : RUniPost w v ad R c a b (.returned (.tuple #[.agg #[v], .int .i64 err])) w' :=
  ⟨err, v, R, c, d, rfl, h.later hb, rfl, hi, hb, hs, .inl rfl⟩
theorem meas_of_acyc {R : RS} {c d : Nat → Nat} (hi : RInv R c d) (h : Acyc R.nodes c) : ∃ g, Meas R.nodes.length c (rargs R.nodes) g := by
  obtain ⟨g, hg⟩ := Acyc.measure (F := fun i => i) (As := rargs R.nodes) h hi.wf (fun i hil => hi.forms (c i) (hi.root i hil).1 (hi.root i hil).2.2) (fun i p _ hp => rargs_eq hp) (fun i hil => ⟨(hi.root i hil).1, (hi.root i hil).2.2⟩)
  exact ⟨g, hg⟩
theorem acyc_of_fine {R : RS} {c0 c d : Nat → Nat} {a b : Nat} {st fin : Nat → Nat} {t : Nat} (hi : RInv R c d) (h0 : Acyc R.nodes c0) (hm : MInv R.nodes c0 a b c []) (ha : a < R.nodes.length) (hb : b < R.nodes.length) (hf : Fine R.nodes.length c (rargs R.nodes) st fin t) (hat : st (c a) = 2) : Acyc R.nodes c :=
  Searched.acyc (N := R.nodes) (c0 := c0) (c := c) (A := fun i => i) (F := fun i => i) (As := rargs R.nodes) (a := a) (b := b) (st := st) (fin := fin) (t := t) ⟨hf.fine, hat⟩ hi.wf h0 hm ha hb (fun i hil => hi.forms (c i) (hi.root i hil).1 (hi.root i hil).2.2) (fun i p _ hp => rargs_eq hp)
theorem par_rep (n i : Nat) : par (List.replicate n 0) i = 0 := by
  unfold par
  by_cases h : i < n
  · rw [List.getElem?_replicate, if_pos h]; rfl
  · rw [List.getElem?_eq_none (by simp; omega)]; rfl
def zeroRow (n : Nat) : Array Value := madeCells #[.int .i64 0] n
theorem make_ints (n : Nat) (hn : n ≤ 1000000) (W : World) : (Instr.makeSlice 30 (.int .i64 (n : Int)) (.int .i64 (n : Int))).run Try.prog W = .ok (.slice (some ⟨W.heap.size, 0, none⟩) n n) (W.alloc (.cells (zeroRow n) 3)) := by
  obtain ⟨i1, ki, kz0, kz1, kz2⟩ := info_parts intInfo
  have := run_make (P := Try.prog) W 30 3 i1 (.int .i64 0) Try.underlying30 ki kz0 .i64 .i64 (n : Int) (n : Int) (by omega) (Int.le_refl _) (by rw [kz2]; omega) (by omega)
  rw [this, kz1, Int.toNat_natCast, Nat.mul_one]
  rfl
theorem Arr.made (W : World) (n : Nat) (hn : n ≤ 1000000) : Arr (W.alloc (.cells (zeroRow n) 3)) W.heap.size (List.replicate n 0) := by
  have := World.ownsRow_lit (base := 0) (e := 3) (size := 1) W (zeroRow n) n (Nat.zero_le _) (by unfold maxLen; omega) (by unfold zeroRow; rw [size_madeCells, Nat.mul_one])
  unfold Arr
  have e : nats (List.replicate n 0) = (zeroRow n).toList := by unfold zeroRow; rw [toList_madeCells_one]; simp [nats]
  rw [e, List.length_replicate]
  exact this
theorem fine_start (n : Nat) (c : Nat → Nat) (A : Nat → List Nat) (m : Nat) : Fine n c A (par (List.replicate m 0)) (fun _ => 0) 0 := ⟨fun i hi => (by rw [par_rep] at hi; cases hi), fun i => (by rw [par_rep]; omega)⟩
theorem above_start (n : Nat) (c : Nat → Nat) (A : Nat → List Nat) (m r : Nat) : Above n c A (par (List.replicate m 0)) r := fun g _ i hi => by rw [par_rep] at hi; cases hi
set_option maxRecDepth 100000 in
set_option maxHeartbeats 4000000 in
theorem runify_any {w : World} {v : Value} {ad : List (Option Addr × Nat)} {R : RS} {c d : Nat → Nat} (h : RSt w v ad R) (hi : ROk R c d) (a b : Int) :
    Calls Try.prog 36 #[.agg #[v], .int .i64 a, .int .i64 b] w (RUniPost w v ad R c a b) := by
  obtain ⟨b0, b1, bb, bz⟩ := box_two w v (.slice none 0 0) 29 29
  obtain ⟨A0, cap0, hv0, _, _⟩ := own_len h.own
  have Hh := hide h; have Hi := hide hi
  obtain ⟨W0, hW0⟩ : ∃ W0, (w.alloc (.cells #[v] 29)).alloc (.cells #[.slice none 0 0] 29) = W0 := ⟨_, rfl⟩
  rw [hW0] at b0 b1 bb bz
  subst hv0
  have HW := hide hW0; have Hb0 := hide b0; have Hb1 := hide b1; have Hbb := hide bb; have Hbz := hide bz
  have hm := h.many
  clear hW0 b0 b1 bb bz h hi
  go_enter Try.func36, Try.ntmps36
  go_wp2_with fail
  rw [HW.out]
  refine (ris_any (Hh.out.later Hbb.out) a).mono ?_
  rintro e W1 ⟨rfl, hb1⟩
  have hbz := Hbz.out
  have q0 := (hb1.block _ (by omega)).trans Hb0.out
  have q1 := (hb1.block _ (by omega)).trans Hb1.out
  have Hbw := hide (Hbb.out.trans (hb1.mono (by omega)))
  have hz1 : w.heap.size + 2 ≤ W1.heap.size := by have := hb1.size; omega
  obtain ⟨s0, t0⟩ := one_cell q0
  obtain ⟨s1, t1⟩ := one_cell q1
  have Hq0 := hide q0; have Hq1 := hide q1
  clear q0 q1 hb1 hbz
  cases hina : inB R.nodes.length a
  · have Hs : Hid (UniSaid R.nodes c a b 221 c) := hide (.inl ⟨by rw [allIn_inB, hina]; rfl, rfl, rfl⟩)
    clear hina
    go_wp2
    have hz5 := blk_set Hq1.out 0 (.slice A0 R.nodes.length cap0)
    obtain ⟨W5, hW5⟩ : ∃ W5, W1.setCell ⟨w.heap.size + 1, 0, none⟩ (.slice A0 R.nodes.length cap0) = W5 := ⟨_, rfl⟩
    have hpost := runi_no Hh.out Hi.out (w' := W5) (by rw [← hW5]; exact Hbw.out.setCell (p := ⟨w.heap.size + 1, 0, none⟩) (by simp) _) Hs.out
    rw [hW5] at hz5
    obtain ⟨k0, -⟩ := one_cell hz5
    simp only [hW5]
    clear hW5 hz5
    exact bodyPost_ret (v := .tuple #[.agg #[.slice A0 R.nodes.length cap0], .int .i64 221]) (by simp [results, Try.results36, go_sem, k0]) rfl hpost
  · have Hina := hide hina
    clear hina
    go_wp2_with fail
    refine (ris_any (Hh.out.later Hbw.out) b).mono ?_
    rintro e W2 ⟨rfl, hb2⟩
    have Hbw2 := hide (Hbw.out.trans (hb2.mono (by omega)))
    have q0 := (hb2.block _ (by omega)).trans Hq0.out
    have q1 := (hb2.block _ (by omega)).trans Hq1.out
    have hz2 : w.heap.size + 2 ≤ W2.heap.size := by have := hb2.size; omega
    clear s0 t0 s1 t1 hb2 Hbw Hq0 Hq1
    obtain ⟨s0, t0⟩ := one_cell q0
    obtain ⟨s1, t1⟩ := one_cell q1
    have Hq0 := hide q0; have Hq1 := hide q1
    clear q0 q1
    cases hinb : inB R.nodes.length b
    · have Hs : Hid (UniSaid R.nodes c a b 221 c) := hide (.inl ⟨by rw [allIn_inB, hinb]; simp, rfl, rfl⟩)
      clear hinb
      go_wp2
      have hz5 := blk_set Hq1.out 0 (.slice A0 R.nodes.length cap0)
      obtain ⟨W5, hW5⟩ : ∃ W5, W2.setCell ⟨w.heap.size + 1, 0, none⟩ (.slice A0 R.nodes.length cap0) = W5 := ⟨_, rfl⟩
      have hpost := runi_no Hh.out Hi.out (w' := W5) (by rw [← hW5]; exact Hbw2.out.setCell (p := ⟨w.heap.size + 1, 0, none⟩) (by simp) _) Hs.out
      rw [hW5] at hz5
      obtain ⟨k0, -⟩ := one_cell hz5
      simp only [hW5]
      clear hW5 hz5
      exact bodyPost_ret (v := .tuple #[.agg #[.slice A0 R.nodes.length cap0], .int .i64 221]) (by simp [results, Try.results36, go_sem, k0]) rfl hpost
    · obtain ⟨a, rfl⟩ : ∃ n : Nat, a = n := ⟨a.toNat, by have := Hina.out; unfold inB at this; simp at this; omega⟩
      obtain ⟨b, rfl⟩ : ∃ n : Nat, b = n := ⟨b.toNat, by unfold inB at hinb; simp at hinb; omega⟩
      have han : a < R.nodes.length := by have := Hina.out; unfold inB at this; simp at this; omega
      have hbn : b < R.nodes.length := by unfold inB at hinb; simp at hinb; omega
      have Hall : Hid (allIn R.nodes.length [(a : Int), (b : Int)] = true) := hide (allIn_two han hbn)
      clear hinb Hina
      have HM := hide (rmerged_any (Hh.out.later Hbw2.out) Hi.out.inv Hi.out.closed a b han hbn)
      go_wp2_with fail
      refine HM.out.mono ?_
      rintro e W3 ⟨v', R', c', d', ok, rfl, hst3, hn3, hi3, hnew3, hb3, hcase⟩
      obtain ⟨g3, cap3, hv3, -⟩ := own_pos hst3.own (by rw [hn3]; omega)
      subst hv3
      have q0 := (hb3.block _ (by omega)).trans Hq0.out
      have q1 := (hb3.block _ (by omega)).trans Hq1.out
      have hz3 : w.heap.size + 2 ≤ W3.heap.size := by have := hb3.size; omega
      have Hbw3 := hide (Hbw2.out.trans (hb3.mono (by omega)))
      have Hst3 := hide hst3; have Hn3 := hide hn3; have Hi3 := hide hi3; have Hcase := hide hcase
      have Hnew3 : Hid (w.heap.size ≤ g3) := hide (by have := hnew3 g3 rfl; omega)
      have Hg3 : Hid (w.heap.size + 2 ≤ g3) := hide (by have := hnew3 g3 rfl; omega)
      have Hq0b := hide q0
      have Hlen : Hid (R'.nodes.length = R.nodes.length) := hide (by rw [hn3])
      clear s0 t0 s1 t1 hst3 hn3 hi3 hnew3 hb3 hcase HM
      obtain ⟨s0, t0⟩ := one_cell q0
      obtain ⟨s1, t1⟩ := one_cell q1
      have Hq3 := hide q1
      have hw3 : w.heap.size < W3.heap.size := by omega
      have hw4 : w.heap.size + 1 < W3.heap.size := by omega
      clear q0 q1
      cases ok
      · have Hs : Hid (UniSaid R.nodes c (a : Int) (b : Int) 131 c) := hide (by
          obtain ⟨h1, -⟩ | ⟨-, h1⟩ := Hcase.out
          · cases h1
          · have h2 := Hn3.out
            rw [h2] at h1
            exact .inr ⟨Hall.out, .inr (.inl ⟨rfl, rfl, h1⟩)⟩)
        go_wp2
        have hz4 := blk_set Hq3.out 0 (.slice A0 R.nodes.length cap0)
        obtain ⟨W5, hW5⟩ : ∃ W5, (W3.setCell ⟨w.heap.size + 1, 0, none⟩ (.slice A0 R.nodes.length cap0)).alloc (.cells #[.slice (some ⟨g3, 0, none⟩) R'.nodes.length cap3] 29) = W5 := ⟨_, rfl⟩
        have hpost := runi_no Hh.out Hi.out (w' := W5) (by rw [← hW5]; exact (Hbw3.out.setCell (p := ⟨w.heap.size + 1, 0, none⟩) (by simp) _).alloc (by simp [World.setCell]; omega) _) Hs.out
        have hz5 : W5.heap[w.heap.size + 1]? = some (.cells #[.slice A0 R.nodes.length cap0] 29 (0, 0)) := by
          rw [← hW5, Below.heap_alloc _ _ _ (by simp [World.setCell]; omega)]; exact hz4
        obtain ⟨k0, -⟩ := one_cell hz5
        simp only [hW5]
        clear hW5 hz5 hz4
        exact bodyPost_ret (v := .tuple #[.agg #[.slice A0 R.nodes.length cap0], .int .i64 131]) (by simp [results, Try.results36, go_sem, k0]) rfl hpost
      · have Hmi : Hid (MInv R'.nodes c a b c' []) := hide (by
          obtain ⟨-, h1, -⟩ | ⟨h1, -⟩ := Hcase.out
          · exact h1
          · cases h1)
        go_upto_region 6 with fail
        obtain ⟨W4, hW4⟩ : ∃ W4, W3.alloc (.cells #[.slice (some ⟨g3, 0, none⟩) R'.nodes.length cap3] 29) = W4 := ⟨_, rfl⟩
        have hb4 : Below W3.heap.size W3 W4 := by rw [← hW4]; exact (Below.refl _ _).alloc (Nat.le_refl _) _
        have hbox4 : W4.heap[W3.heap.size]? = some (.cells #[.slice (some ⟨g3, 0, none⟩) R'.nodes.length cap3] 29 (0, 0)) := by rw [← hW4]; exact heap_alloc_new W3 _
        have hz4 : W4.heap.size = W3.heap.size + 1 := by rw [← hW4]; simp
        have Hst4 := hide (Hst3.out.later hb4)
        have Hb4 := hide hb4; have Hbox4 := hide hbox4; have Hz4 := hide hz4
        have hl4 : W3.heap.size < W4.heap.size := by omega
        have hn4 : R'.nodes.length ≤ 1000000 := Hst3.out.many
        simp only [hW4]
        clear hW4 hb4 hz4 s0 t0 s1 t1
        obtain ⟨s0, t0⟩ := one_cell hbox4
        clear hbox4
        have hms := make_ints R'.nodes.length hn4
        have han' : a < R'.nodes.length := by have := Hlen.out; omega
        have hb5 : Below W4.heap.size W4 ((W4.alloc (.cells (zeroRow R'.nodes.length) 3)).drew) := ((Below.refl _ _).alloc (Nat.le_refl _) _).drew
        have HRd := hide (rrounds_any Hi3.out W4.heap.size (fun e => by have := Hst4.out.lt _ e; omega) (fun i a ha z hz' e => by have := Hst4.out.adlt i a ha z hz'; omega) _ a (fun _ => 0) 0 (List.replicate R'.nodes.length 0) ((W4.alloc (.cells (zeroRow R'.nodes.length) 3)).drew) rfl han' (by simp) (Hst4.out.later hb5) ((Arr.made W4 _ hn4).keep rfl) (fine_start _ _ _ _) (above_start _ _ _ _ _))
        rw [List.length_replicate] at HRd
        have s5 := (hb5.cell (p := ⟨W3.heap.size, 0, none⟩) hl4).trans s0
        have hl5 : W3.heap.size < ((W4.alloc (.cells (zeroRow R'.nodes.length) 3)).drew).heap.size := Nat.lt_of_lt_of_le hl4 hb5.size
        have hne5 : W3.heap.size ≠ W4.heap.size := by omega
        have Hb5 := hide hb5
        clear hb5
        go_region_held3 (fun w' => w'.cell? ⟨W3.heap.size, 0, none⟩ = some (.slice (some ⟨g3, 0, none⟩) R'.nodes.length cap3)) (go_keep)
          (first | (go_at_call 58; refine HRd.out.mono ?_; rintro e w' ⟨rb, rfl, ho', hsaid⟩; have Hsaid := hide hsaid; have r0 := (ho'.cell (p := ⟨W3.heap.size, 0, none⟩) hl5 hne5).trans s5; clear hsaid))
        rename_i hHeld
        clear hHeld s5 s0 t0 hms
        have hb6 : Below W4.heap.size W4 w' := Only.below_trans Hb5.out ho' (fun k _ e => by omega) Hb5.out.size
        have hbw6 : Below w.heap.size w w' := Hbw3.out.trans ((Hb4.out.trans (hb6.mono Hb4.out.size)).mono (by omega))
        have q0 : w'.heap[w.heap.size + 1]? = some (.cells #[.slice none 0 0] 29 (0, 0)) := (hb6.block _ (by omega)).trans ((Hb4.out.block _ (by omega)).trans Hq3.out)
        have q2 : w'.heap[w.heap.size]? = some (.cells #[.slice A0 R.nodes.length cap0] 29 (0, 0)) := (hb6.block _ (by omega)).trans ((Hb4.out.block _ (by omega)).trans ((Hq0b.out)))
        obtain ⟨s1, t1⟩ := one_cell q0
        obtain ⟨s2, t2⟩ := one_cell q2
        have Hb6 := hide hb6; have Hbw6 := hide hbw6; have Hq6 := hide q0
        clear q0 q2 hb6 hbw6 ho' HRd hl5
        cases rb
        · obtain ⟨h1, -⟩ | ⟨-, l', f', t9, hl', harr', hfine', hwent', hdone'⟩ := Hsaid.out
          · cases h1
          have Hac : Hid (Acyc R'.nodes c') := hide (acyc_of_fine Hi3.out (by rw [Hn3.out]; exact Hi.out.acyc) Hmi.out han' (by have := Hlen.out; omega) hfine' hdone')
          clear hl' harr' hfine' hwent' hdone'
          go_wp2
          have hz5 := blk_set Hq6.out 0 (.slice (some ⟨g3, 0, none⟩) R'.nodes.length cap3)
          obtain ⟨W5, hW5⟩ : ∃ W5, w'.setCell ⟨w.heap.size + 1, 0, none⟩ (.slice (some ⟨g3, 0, none⟩) R'.nodes.length cap3) = W5 := ⟨_, rfl⟩
          have hon : Only (fun k => k = w.heap.size + 1) w' W5 := by rw [← hW5]; exact (Only.refl (fun k => k = w.heap.size + 1) w').setCell (p := ⟨w.heap.size + 1, 0, none⟩) (.inl rfl) _
          have hpost : RUniPost w (.slice A0 R.nodes.length cap0) ad R c (a : Int) (b : Int) (.returned (.tuple #[.agg #[.slice (some ⟨g3, 0, none⟩) R'.nodes.length cap3], .int .i64 0])) W5 := by
            refine ⟨0, _, R', c', d', rfl, (Hst4.out.later Hb6.out).only hon (fun k hk e => ?_) (fun i z hz u hu e => ?_), Hn3.out, ⟨Hi3.out, Hmi.out.done.good.closed, Hac.out⟩, Only.below_trans Hbw6.out hon (fun k _ e => by omega) Hbw6.out.size, .inr ⟨Hall.out, .inl ⟨rfl, by rw [← Hn3.out]; exact Hmi.out.done⟩⟩, .inr (fun k hk => by simp [Value.ownBlock] at hk; have := Hnew3.out; omega)⟩
            · simp [Value.ownBlock] at hk
              have h1 := Hg3.out
              omega
            · have := Hh.out.adlt i z hz u hu; omega
          rw [hW5] at hz5
          obtain ⟨k0, -⟩ := one_cell hz5
          simp only [hW5]
          clear hW5 hz5 hon
          exact bodyPost_ret (v := .tuple #[.agg #[.slice (some ⟨g3, 0, none⟩) R'.nodes.length cap3], .int .i64 0]) (by simp [results, Try.results36, go_sem, k0]) rfl hpost
        · have Hs : Hid (UniSaid R.nodes c (a : Int) (b : Int) 130 c) := hide (by
            obtain ⟨-, h1⟩ | ⟨h1, -⟩ := Hsaid.out
            · exact .inr ⟨Hall.out, .inr (.inr ⟨rfl, rfl, c', by rw [← Hn3.out]; exact Hmi.out.done, fun h2 => h1 (meas_of_acyc Hi3.out (by rw [Hn3.out]; exact h2))⟩)⟩
            · cases h1)
          go_wp2
          have hz5 := blk_set Hq6.out 0 (.slice A0 R.nodes.length cap0)
          obtain ⟨W5, hW5⟩ : ∃ W5, w'.setCell ⟨w.heap.size + 1, 0, none⟩ (.slice A0 R.nodes.length cap0) = W5 := ⟨_, rfl⟩
          have hpost := runi_no Hh.out Hi.out (w' := W5) (by rw [← hW5]; exact Hbw6.out.setCell (p := ⟨w.heap.size + 1, 0, none⟩) (by simp) _) Hs.out
          rw [hW5] at hz5
          obtain ⟨k0, -⟩ := one_cell hz5
          simp only [hW5]
          clear hW5 hz5
          exact bodyPost_ret (v := .tuple #[.agg #[.slice A0 R.nodes.length cap0], .int .i64 130]) (by simp [results, Try.results36, go_sem, k0]) rfl hpost
end Go.Proofs.Ytafpbdmggnfdnaa
