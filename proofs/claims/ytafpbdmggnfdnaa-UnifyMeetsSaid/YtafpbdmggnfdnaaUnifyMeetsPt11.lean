/- Part 11 of the proof of UnifyMeets: what follows was kept as these texts: RefMake. -/
import Derived.Test.YtafpbdmggnfdnaaUnifyMeetsPt1
import Derived.Test.YtafpbdmggnfdnaaUnifyMeetsPt2
import Derived.Test.YtafpbdmggnfdnaaUnifyMeetsPt3
import Derived.Test.YtafpbdmggnfdnaaUnifyMeetsPt4
import Derived.Test.YtafpbdmggnfdnaaUnifyMeetsPt5
import Derived.Test.YtafpbdmggnfdnaaUnifyMeetsPt6
import Derived.Test.YtafpbdmggnfdnaaUnifyMeetsPt7
import Derived.Test.YtafpbdmggnfdnaaUnifyMeetsPt8
import Derived.Test.YtafpbdmggnfdnaaUnifyMeetsPt9
import Derived.Test.YtafpbdmggnfdnaaUnifyMeetsPt10
/- The reference's store: add, Var, Make. -/
namespace Go.Proofs.Ytafpbdmggnfdnaa
open Go.RowKit
set_option linter.unusedVariables false

theorem rnInfo : (Try.prog.info? 91).map (fun i => (i.zero, i.size, i.bytes)) = some (some (.agg #[.int .i64 0, .string ByteArray.empty, .slice none 0 0, .int .i64 0]), 4, 56) := by kernel_rfl
/-- A node more. -/
def RAdded (w : World) (v : Value) (ad : List (Option Addr × Nat)) (R : RS) (p : Nd) (v' : Value) (w' : World) : Prop :=
  ∃ ad', RSt w' v' ad' (R.add p) ∧ Only (fun b => v.ownBlock = some b) w w' ∧ (∀ b, v'.ownBlock = some b → v.ownBlock = some b ∨ w.heap.size ≤ b) ∧ ∀ (i : Nat) (a : Option Addr × Nat), ad'[i]? = some a → ad[i]? = some a ∨ ∀ x, a.1 = some x → w.heap.size ≤ x.block
def RAddPost (w : World) (v : Value) (ad : List (Option Addr × Nat)) (R : RS) (p : Nd) (e : Ending) (w' : World) : Prop :=
  ∃ v', e = .returned (.tuple #[.agg #[v'], .int .i64 (R.nodes.length : Int)]) ∧ RAdded w v ad R p v' w'
theorem RAdded.shift {w W0 w1 w2 : World} {v v' : Value} {ad : List (Option Addr × Nat)} {R : RS} {p : Nd} {F : Nat → Prop} (h : RAdded W0 v ad R p v' w1) (h0 : RSt w v ad R) (hb : Below w.heap.size w W0) (ho : Only F w1 w2) (hF : ∀ b, F b → w.heap.size ≤ b ∧ (b < W0.heap.size ∨ w1.heap.size ≤ b)) : RAdded w v ad R p v' w2 := by
  obtain ⟨ad', k1, k2, k3, k4⟩ := h
  have hz := hb.size
  have hz1 := k2.size
  refine ⟨ad', k1.only ho (fun b hb' hf => ?_) (fun i a ha x hx hf => ?_), ?_, fun b hb' => (k3 b hb').imp id fun h => by omega, fun i a ha => (k4 i a ha).imp id fun h x hx => by have := h x hx; omega⟩
  · have h1 := hF b hf
    have h2 := k1.lt b hb'
    rcases k3 b hb' with h | h
    · have := h0.lt b h; omega
    · omega
  · have h1 := hF _ hf
    have h2 := k1.adlt i a ha x hx
    rcases k4 i a ha with h | h
    · have := h0.adlt i a h x hx; omega
    · have := h x hx; omega
  · exact ((Only.of_below hb _).trans k2).then_ ho (fun b hf hl => by have := hF b hf; omega)
theorem radd_post {w W : World} {v v' : Value} {ad : List (Option Addr × Nat)} {R : RS} (h : RSt w v ad R) (p : Nd) (A : Option Addr) (c : Nat) (hA : Nats W A p.args) (hAb : ∀ x, A = some x → w.heap.size ≤ x.block ∧ x.block < W.heap.size ∧ v'.ownBlock ≠ some x.block) (hm : R.nodes.length + 1 ≤ 1000000) (hpa : p.args.length ≤ 1000000)
    (hown : W.ownsRow 0 91 4 v' (R.nodes.length + 1) (rnCells R.nodes ad (links R.up) ++ rnCell p (A, c) (-1))) (ho : Only (fun b => v.ownBlock = some b) w W) (hb : ∀ b, v'.ownBlock = some b → v.ownBlock = some b ∨ w.heap.size ≤ b) :
    RAddPost w v ad R p (.returned (.tuple #[.agg #[v'], .int .i64 (R.nodes.length : Int)])) W := by
  have hlen : (R.add p).nodes.length = R.nodes.length + 1 := by simp [RS.add]
  have hup : links (R.add p).up = links R.up ++ [-1] := by simp only [RS.add]; rw [← h.lup]; exact links_snoc R.up
  refine ⟨v', rfl, ad ++ [(A, c)], ⟨?_, by simp [RS.add, h.lad], by simp [RS.add, h.lup], fun i q a hi ha => ?_, by rw [hlen]; exact hm, fun i q hi => ?_⟩, ho, hb, fun i a ha => ?_⟩
  · rw [hlen, hup]
    simp only [RS.add]
    rw [rnCells_snoc _ _ _ _ _ _ h.lad (by rw [links_length, h.lup])]
    exact hown
  · rcases snoc_at hi with ⟨hi0, hi1⟩ | ⟨rfl, rfl⟩
    · rw [List.getElem?_append_left (by rw [h.lad]; exact hi0)] at ha
      obtain ⟨g1, g2⟩ := h.args i q a hi1 ha
      refine ⟨Ints.only g1 ho fun x e => (g2 x e).2, fun x e => ⟨Nat.lt_of_lt_of_le (g2 x e).1 ho.size, fun hf => ?_⟩⟩
      rcases hb _ hf with e' | e'
      · exact (g2 x e).2 e'
      · have := (g2 x e).1; omega
    · rw [← h.lad] at ha
      simp at ha
      subst ha
      exact ⟨hA, fun x e => ⟨(hAb x e).2.1, (hAb x e).2.2⟩⟩
  · rcases snoc_at hi with ⟨hi0, hi1⟩ | ⟨rfl, rfl⟩
    · exact h.few i q hi1
    · exact hpa
  · by_cases hil : i < ad.length
    · rw [List.getElem?_append_left hil] at ha; exact .inl ha
    · rw [List.getElem?_append_right (by omega)] at ha
      have hi2 : i = ad.length := by
        have := (List.getElem?_eq_some_iff.1 ha).1
        simp at this; omega
      subst hi2
      simp at ha
      subst ha; exact .inr fun x hx => (hAb x hx).1
theorem blk_set {W : World} {g : Nat} {cs : Array Value} {t : TypeId} (h : W.heap[g]? = some (.cells cs t (0, 0))) (k : Nat) (u : Value) : (W.setCell ⟨g, k, none⟩ u).heap[g]? = some (.cells (cs.setIfInBounds k u) t (0, 0)) := by
  simp [World.setCell, Array.getElem?_modify, h]
theorem one_cell {W : World} {g : Nat} {u0 : Value} {t : TypeId} (h : W.heap[g]? = some (.cells #[u0] t (0, 0))) : W.cell? ⟨g, 0, none⟩ = some u0 ∧ W.frozen? ⟨g, 0, none⟩ = false := by
  refine ⟨?_, by simp [World.frozen?, h]⟩
  rw [cell_of_row _ _ _ _ _ _ h]; rfl
set_option maxRecDepth 100000 in
set_option maxHeartbeats 4000000 in
theorem radd_any {w : World} {v : Value} {ad : List (Option Addr × Nat)} {R : RS} (h : RSt w v ad R) (p : Nd) (l : Int) (A : Option Addr) (c : Nat) (hA : Nats w A p.args) (hm : R.nodes.length + 1 ≤ 1000000) (hpa : p.args.length ≤ 1000000) :
    Calls Try.prog 56 #[.agg #[v], .agg #[.int .i64 p.kind, .string p.name, .slice A p.args.length c, .int .i64 l]] w (RAddPost w v ad R p) := by
  obtain ⟨i0, hi, hz0, hz1, hz2⟩ := info_parts rnInfo
  have Hi := hide hi; have Hz0 := hide hz0; have Hz1 := hide hz1; have Hz2 := hide hz2
  clear hi hz0 hz1 hz2
  obtain ⟨A0, cap0, hv0, _, _⟩ := own_len h.own
  subst hv0
  have Hh := hide h
  have HA := hide hA
  have hlc : (cast p.args).length = p.args.length := by simp [cast]
  have Hlc := hide hlc
  have HC := hide (fun W (hW : Ints W A (cast p.args)) => copyInts_any A c (cast p.args) W hW (by rw [hlc]; exact hpa))
  rw [hlc] at HC
  clear hA h hlc
  go_enter Try.func56, Try.ntmps56
  go_wp2_with fail
  obtain ⟨W0, hW0⟩ : ∃ W0, (((w.alloc (.cells #[.slice A0 R.nodes.length cap0] 29)).alloc (.cells #[.int .i64 p.kind, .string p.name, .slice A p.args.length c, .int .i64 (-1)] 91)).alloc (.cells #[.slice none 0 0] 29)) = W0 := ⟨_, rfl⟩
  have hb0 : Below w.heap.size w W0 := by rw [← hW0]; exact (((Below.refl _ _).alloc (Nat.le_refl _) _).alloc (by simp) _).alloc (by simp; omega) _
  have hz0 : W0.heap.size = w.heap.size + 3 := by rw [← hW0]; simp
  have e0 : W0.heap[w.heap.size]? = some (.cells #[.slice A0 R.nodes.length cap0] 29 (0, 0)) := by rw [← hW0, Below.heap_alloc _ _ _ (by simp; omega), Below.heap_alloc _ _ _ (by simp)]; exact heap_alloc_new w _
  have e1 : W0.heap[w.heap.size + 1]? = some (.cells #[.int .i64 p.kind, .string p.name, .slice A p.args.length c, .int .i64 (-1)] 91 (0, 0)) := by
    rw [← hW0, Below.heap_alloc _ _ _ (by simp)]
    have := heap_alloc_new (w.alloc (.cells #[.slice A0 R.nodes.length cap0] 29)) (.cells #[.int .i64 p.kind, .string p.name, .slice A p.args.length c, .int .i64 (-1)] 91)
    rwa [World.size_alloc] at this
  have e2 : W0.heap[w.heap.size + 1 + 1]? = some (.cells #[.slice none 0 0] 29 (0, 0)) := by
    have := heap_alloc_new ((w.alloc (.cells #[.slice A0 R.nodes.length cap0] 29)).alloc (.cells #[.int .i64 p.kind, .string p.name, .slice A p.args.length c, .int .i64 (-1)] 91)) (.cells #[.slice none 0 0] 29)
    rw [← hW0]
    simpa only [World.size_alloc] using this
  rw [hW0]
  clear hW0
  refine (HC.out W0 (Ints.below HA.out hb0)).mono ?_
  rintro e w1 ⟨A1, c1, rfl, hI, hB, hb1⟩
  rw [Hlc.out]
  have f0 := (hb1.block _ (by omega)).trans e0
  have f1 := (hb1.block _ (by omega)).trans e1
  have f2 := (hb1.block _ (by omega)).trans e2
  have Hb1 := hide (hb0.trans (hb1.mono hb0.size))
  have hz1 : w.heap.size + 3 ≤ w1.heap.size := by have := hb1.size; omega
  have HI := hide hI; have HB := hide hB
  clear e0 e1 e2 hb1 hI hB HC HA
  obtain ⟨x0, x1, x2, x3, xf⟩ := four_cells f1
  have y2 := xf 2
  go_upto_region 3 with fail
  obtain ⟨W2, hW2⟩ : ∃ W2, w1.setCell ⟨w.heap.size + 1, 2, none⟩ (.slice A1 p.args.length c1) = W2 := ⟨_, rfl⟩
  have g0 : W2.heap[w.heap.size]? = some (.cells #[.slice A0 R.nodes.length cap0] 29 (0, 0)) := by rw [← hW2, Below.heap_setCell _ _ _ _ (by simp)]; exact f0
  have g1 : W2.heap[w.heap.size + 1]? = some (.cells #[.int .i64 p.kind, .string p.name, .slice A1 p.args.length c1, .int .i64 (-1)] 91 (0, 0)) := by rw [← hW2]; exact blk_set f1 2 _
  have g2 : W2.heap[w.heap.size + 1 + 1]? = some (.cells #[.slice none 0 0] 29 (0, 0)) := by rw [← hW2, Below.heap_setCell _ _ _ _ (by simp)]; exact f2
  have Hb2 : Hid (Below w.heap.size w W2) := hide (by rw [← hW2]; exact Hb1.out.setCell (by simp) _)
  have hz2 : w.heap.size + 3 ≤ W2.heap.size := by rw [← hW2]; simpa [World.setCell] using hz1
  have HI2 : Hid (Ints W2 A1 (cast p.args)) := hide (by
    refine HI.out.keep (by rw [← hW2]; simp [World.setCell]) (fun a q ha hq hl => ?_)
    rw [← hW2]
    exact World.cell?_of_block (Below.heap_setCell _ _ _ _ (by have := (HB.out a ha).1; simp; omega)))
  have HB2 : Hid (∀ x, A1 = some x → w.heap.size + 3 ≤ x.block ∧ x.block < W2.heap.size) := hide (fun x hx => by have := HB.out x hx; rw [← hW2]; simp [World.setCell]; omega)
  simp only [hW2]
  clear hW2 x0 x1 x2 x3 xf y2 f0 f1 f2 Hb1 HI HB hz1 w1
  obtain ⟨s0, t0⟩ := one_cell g0
  obtain ⟨x0, x1, x2, x3, xf⟩ := four_cells g1
  have HO := hide ((own_keep Hh.out.own (fun b hb => Hb2.out.block b (Hh.out.lt b hb))).alloc (.cells #[.int .i64 p.kind, .string p.name, .slice A1 p.args.length c1, .int .i64 (-1)] 91))
  have HN := hide (four_new W2 (.int .i64 p.kind) (.string p.name) (.slice A1 p.args.length c1) (.int .i64 (-1)) 91)
  have H1 : Hid (∀ u ∈ rnCell p (A1, c1) (-1), u.oneCell' = true) := hide (by simp [rnCell, Value.oneCell'])
  have Hg0 := hide g0; have Hg2 := hide g2
  clear g0 g1 g2 xf
  go_upto_region 4 with (at_builtin; refine wpList_append_own_at _ rfl (.tmp 12) (.tmp 14) 27 rfl 0 91 i0 (.agg #[.int .i64 0, .string ByteArray.empty, .slice none 0 0, .int .i64 0]) 4 56 Try.underlying27 Hi.out Hz0.out Hz1.out Hz2.out rfl (by decide) (.slice A0 R.nodes.length cap0) R.nodes.length (rnCells R.nodes ad (links R.up)) rfl HO.out ⟨W2.heap.size, 0, none⟩ 1 1 (rnCell p (A1, c1) (-1)) rfl rfl HN.out H1.out (by simp only [maxLen]; omega) (by omega) (Nat.zero_le _) ?_; intro v3 W3 own3 grow3 nil3 at3; clear nil3; obtain ⟨A3, cap3, hv3, -, -⟩ := own_len own3; subst hv3; have hnb : ∀ b, w.heap.size ≤ b → (Value.slice A0 R.nodes.length cap0).ownBlock ≠ some b := (fun b hb e => by have := Hh.out.lt b e; omega); have q0 := (grow3.block w.heap.size (by simp; omega) (fun e => hnb _ (Nat.le_refl _) e.symm)).trans ((Below.heap_alloc _ _ _ (by omega)).trans Hg0.out); have q2 := (grow3.block (w.heap.size + 1 + 1) (by simp; omega) (fun e => hnb _ (by omega) e.symm)).trans ((Below.heap_alloc _ _ _ (by omega)).trans Hg2.out); obtain ⟨s1, t1⟩ := one_cell q0; obtain ⟨s2, t2⟩ := one_cell q2; have Q0 := hide q0; have Q2 := hide q2; have O3 := hide own3; have G3 := hide grow3; have T3 := hide at3; clear q0 q2 own3 grow3 at3 hnb)
  obtain ⟨W4, hW4⟩ : ∃ W4, W3.setCell ⟨w.heap.size, 0, none⟩ (.slice A3 (R.nodes.length + 1) cap3) = W4 := ⟨_, rfl⟩
  have q0 : W4.heap[w.heap.size]? = some (.cells #[.slice A3 (R.nodes.length + 1) cap3] 29 (0, 0)) := by rw [← hW4]; exact blk_set Q0.out 0 _
  have q2 : W4.heap[w.heap.size + 1 + 1]? = some (.cells #[.slice none 0 0] 29 (0, 0)) := by rw [← hW4, Below.heap_setCell _ _ _ _ (by simp; omega)]; exact Q2.out
  have HW4 := hide hW4
  simp only [hW4]
  clear hW4 s0 t0 x0 x1 x2 x3 s1 t1 s2 t2
  obtain ⟨s0, t0⟩ := one_cell q0
  obtain ⟨s2, t2⟩ := one_cell q2
  have Hq2 := hide q2
  clear q0 q2 hz0
  go_region
  all_goals
    go_wp2
    have hz5 := blk_set Hq2.out 0 (.slice A3 (R.nodes.length + 1) cap3)
    obtain ⟨W5, hW5⟩ : ∃ W5, (W4.setCell ⟨w.heap.size + 1 + 1, 0, none⟩ (.slice A3 (R.nodes.length + 1) cap3)).drew = W5 := ⟨_, rfl⟩
    have k0 : W5.heap[w.heap.size + 1 + 1]? = some (.cells #[.slice A3 (R.nodes.length + 1) cap3] 29 (0, 0)) := by rw [← hW5]; exact hz5
    have hsame : ∀ k, k ≠ w.heap.size → k ≠ w.heap.size + 1 + 1 → W5.heap[k]? = W3.heap[k]? := by
      intro k h1 h2
      rw [← hW5, ← HW4.out]
      exact (Below.heap_setCell _ _ _ k h2).trans (Below.heap_setCell _ _ _ k h1)
    have hown : ∀ b, (Value.slice A3 (R.nodes.length + 1) cap3).ownBlock = some b → (Value.slice A0 R.nodes.length cap0).ownBlock = some b ∨ w.heap.size + 3 ≤ b := by
      intro b hb
      rcases T3.out with e | e
      · exact .inl (e.symm.trans hb)
      · rw [e, World.size_alloc] at hb; injection hb with hb; exact .inr (by omega)
    have hold : ∀ b, (Value.slice A0 R.nodes.length cap0).ownBlock = some b → b < w.heap.size := Hh.out.lt
    have hno : ∀ b, (Value.slice A3 (R.nodes.length + 1) cap3).ownBlock = some b → b ≠ w.heap.size ∧ b ≠ w.heap.size + 1 + 1 := by
      intro b hb
      rcases hown b hb with e | e
      · have := hold b e; omega
      · omega
    have hon : Only (fun b => (Value.slice A0 R.nodes.length cap0).ownBlock = some b) w W5 := by
      rw [← hW5, ← HW4.out]
      exact (((((Only.of_below Hb2.out _).alloc _).grown G3.out (fun b hb => .inl hb)).setCell (.inr (Nat.le_refl _)) _).setCell (.inr (by simp; omega)) _).drew
    have hz3 := G3.out.size
    rw [World.size_alloc] at hz3
    have hz5' : W5.heap.size = W3.heap.size := by rw [← hW5, ← HW4.out]; simp [World.setCell, World.drew]
    have hpost := radd_post Hh.out p A1 c1 (W := W5) (v' := .slice A3 (R.nodes.length + 1) cap3) (by
        refine HI2.out.keep (by omega) (fun a q ha hq hl => ?_)
        have h1 := (HB2.out a ha)
        refine World.cell?_of_block ?_
        rw [hsame _ (by omega) (by omega), G3.out.block _ (by rw [World.size_alloc]; omega) (fun e => by have := hold _ e.symm; omega), Below.heap_alloc _ _ _ (by omega)])
      (fun x hx => ⟨by have := (HB2.out x hx).1; omega, by have := (HB2.out x hx).2; omega, fun e => by
        have h1 := HB2.out x hx
        rcases T3.out with e2 | e2
        · have := hold _ (e2.symm.trans e); omega
        · rw [e2, World.size_alloc] at e; injection e with e; omega⟩) hm hpa
      (own_keep O3.out (fun b hb => hsame b (hno b hb).1 (hno b hb).2)) hon (fun b hb => (hown b hb).imp id (fun h => by omega))
    obtain ⟨c0, -⟩ := one_cell k0
    simp only [hW5]
    clear hW5 hsame hon s0 t0 s2 t2 hz5
    exact bodyPost_ret (v := .tuple #[.agg #[.slice A3 (R.nodes.length + 1) cap3], .int .i64 (R.nodes.length : Int)]) (by simp [results, Try.results56, go_sem, c0]) rfl hpost

/-- Of one cell, or of two: a new box each. -/
theorem box_two (w : World) (u0 u1 : Value) (t0 t1 : TypeId) : ((w.alloc (.cells #[u0] t0)).alloc (.cells #[u1] t1)).heap[w.heap.size]? = some (.cells #[u0] t0 (0, 0)) ∧ ((w.alloc (.cells #[u0] t0)).alloc (.cells #[u1] t1)).heap[w.heap.size + 1]? = some (.cells #[u1] t1 (0, 0)) ∧ Below w.heap.size w ((w.alloc (.cells #[u0] t0)).alloc (.cells #[u1] t1)) ∧ ((w.alloc (.cells #[u0] t0)).alloc (.cells #[u1] t1)).heap.size = w.heap.size + 2 := by
  refine ⟨by rw [Below.heap_alloc _ _ _ (by simp)]; exact heap_alloc_new w _, ?_, ((Below.refl _ _).alloc (Nat.le_refl _) _).alloc (by simp) _, by simp⟩
  have := heap_alloc_new (w.alloc (.cells #[u0] t0)) (.cells #[u1] t1)
  rwa [World.size_alloc] at this
set_option maxHeartbeats 1000000 in
theorem rvar_any {w : World} {v : Value} {ad : List (Option Addr × Nat)} {R : RS} (h : RSt w v ad R) (hm : R.nodes.length + 1 ≤ 1000000) :
    Calls Try.prog 34 #[.agg #[v]] w (RAddPost w v ad R varNd) := by
  obtain ⟨b0, b1, bb, bz⟩ := box_two w v (.slice none 0 0) 29 29
  obtain ⟨A0, cap0, hv0, _, _⟩ := own_len h.own
  have Hh := hide h
  have HA := hide (radd_any (h.later bb) varNd 0 none 0 (fun h => absurd rfl h) hm (by decide))
  obtain ⟨W0, hW0⟩ : ∃ W0, (w.alloc (.cells #[v] 29)).alloc (.cells #[.slice none 0 0] 29) = W0 := ⟨_, rfl⟩
  rw [hW0] at b0 b1 bb bz HA
  subst hv0
  have HW := hide hW0; have Hb0 := hide b0; have Hb1 := hide b1; have Hbb := hide bb; have Hbz := hide bz
  clear hW0 b0 b1 bb bz h
  go_enter Try.func34, Try.ntmps34
  go_wp2_with fail
  rw [HW.out]
  refine HA.out.mono ?_
  rintro e w1 ⟨v', rfl, hp⟩
  have hbz := Hbz.out
  have q1 : w1.heap[w.heap.size + 1]? = some (.cells #[.slice none 0 0] 29 (0, 0)) := by
    obtain ⟨ad', k1, k2, k3, k4⟩ := hp
    exact (k2.block _ (by omega) (fun hf => by have := Hh.out.lt _ hf; omega)).trans Hb1.out
  obtain ⟨c0, t0⟩ := one_cell q1
  have HP := hide hp; have Hq1 := hide q1
  obtain ⟨A', cap', hv', -, -⟩ : ∃ A' cap', v' = .slice A' (R.nodes.length + 1) cap' ∧ True ∧ True := by
    obtain ⟨ad', k1, -⟩ := hp
    obtain ⟨A', cap', e, -, -⟩ := own_len k1.own
    exact ⟨A', cap', by rw [e]; simp [RS.add], trivial, trivial⟩
  subst hv'
  clear hp q1
  go_wp2
  have hz5 := blk_set Hq1.out 0 (.slice A' (R.nodes.length + 1) cap')
  obtain ⟨W5, hW5⟩ : ∃ W5, w1.setCell ⟨w.heap.size + 1, 0, none⟩ (.slice A' (R.nodes.length + 1) cap') = W5 := ⟨_, rfl⟩
  have hpost : RAddPost w (.slice A0 R.nodes.length cap0) ad R varNd (.returned (.tuple #[.agg #[.slice A' (R.nodes.length + 1) cap'], .int .i64 (R.nodes.length : Int)])) W5 := by
    refine ⟨_, rfl, HP.out.shift (F := fun b => b = w.heap.size + 1) Hh.out Hbb.out ?_ (fun b hb => by omega)⟩
    rw [← hW5]; exact (Only.refl (fun b => b = w.heap.size + 1) w1).setCell (p := ⟨w.heap.size + 1, 0, none⟩) (.inl rfl) _
  rw [hW5] at hz5
  obtain ⟨k0, -⟩ := one_cell hz5
  simp only [hW5]
  clear hW5 c0 t0 hz5
  exact bodyPost_ret (v := .tuple #[.agg #[.slice A' (R.nodes.length + 1) cap'], .int .i64 (R.nodes.length : Int)]) (by simp [results, Try.results34, go_sem, k0]) rfl hpost

/-- What Make answers. -/
def RMakeAny (w : World) (v : Value) (ad : List (Option Addr × Nat)) (R : RS) (kind : Int) (name : ByteArray) (xs : List Int) (e : Ending) (w' : World) : Prop :=
  ∃ v', e = .returned (.tuple #[.agg #[v'], .int .i64 (makeV R.nodes kind name xs), .int .i64 (makeErr R.nodes.length kind name xs)]) ∧
    ((makeErr R.nodes.length kind name xs = 0 ∧ RAdded w v ad R ⟨kind, name, xs.map Int.toNat⟩ v' w') ∨ (makeErr R.nodes.length kind name xs ≠ 0 ∧ v' = v ∧ Below w.heap.size w w'))
theorem rmake_no {w w' : World} {v : Value} {ad : List (Option Addr × Nat)} {R : RS} {kind : Int} {name : ByteArray} {xs : List Int} {err : Int} (he : makeErr R.nodes.length kind name xs = err) (h0 : err ≠ 0) (hb : Below w.heap.size w w') : RMakeAny w v ad R kind name xs (.returned (.tuple #[.agg #[v], .int .i64 0, .int .i64 err])) w' := by
  refine ⟨v, ?_, .inr ⟨by rw [he]; exact h0, rfl, hb⟩⟩
  unfold makeV
  rw [he, if_neg h0]
theorem allIn_snoc (n : Nat) (xs : List Int) (k : Nat) (hk : k < xs.length) (h : allIn n (xs.take k) = true) (hx : inB n xs[k] = true) : allIn n (xs.take (k + 1)) = true := by
  rw [List.take_succ_eq_append_getElem hk]
  unfold allIn at h ⊢
  rw [List.all_append, h]
  unfold inB at hx
  simp at hx ⊢; exact hx
theorem allIn_not (n : Nat) (xs : List Int) (k : Nat) (hk : k < xs.length) (hx : inB n xs[k] = false) : allIn n xs = false := by
  unfold allIn
  rw [List.all_eq_false]
  refine ⟨xs[k], List.getElem_mem hk, ?_⟩
  unfold inB at hx
  simp at hx ⊢; exact hx
set_option maxRecDepth 100000 in
set_option maxHeartbeats 4000000 in
theorem rmake_any {w : World} {v : Value} {ad : List (Option Addr × Nat)} {R : RS} (h : RSt w v ad R) (kind : Int) (hkind : kind = 2 ∨ kind = 3 ∨ kind = 4) (name : ByteArray) (hs : name.size ≤ 1000000) (A : Option Addr) (c : Nat) (xs : List Int) (hA : Ints w A xs) (hl : xs.length ≤ 1000000) (hm : R.nodes.length + 1 ≤ 1000000) :
    Calls Try.prog 35 #[.agg #[v], .int .i64 kind, .string name, .slice A xs.length c] w (RMakeAny w v ad R kind name xs) := by
  obtain ⟨b0, b1, bb, bz⟩ := box_two w v (.slice none 0 0) 29 29
  obtain ⟨A0, cap0, hv0, _, _⟩ := own_len h.own
  have Hh := hide h; have HA := hide hA; have Hkind := hide hkind
  obtain ⟨W0, hW0⟩ : ∃ W0, (w.alloc (.cells #[v] 29)).alloc (.cells #[.slice none 0 0] 29) = W0 := ⟨_, rfl⟩
  rw [hW0] at b0 b1 bb bz
  subst hv0
  have HW := hide hW0; have Hb0 := hide b0; have Hb1 := hide b1; have Hbb := hide bb; have Hbz := hide bz
  clear hW0 b0 b1 bb bz h hA hkind
  go_enter Try.func35, Try.ntmps35
  go_wp2
  simp only [HW.out]
  go_loopw [11] (fun vi wr => ∃ k : Nat, vi = .int .i64 k ∧ k ≤ xs.length ∧ Hid (allIn R.nodes.length (xs.take k) = true) ∧ Hid (Below W0.heap.size W0 wr)) (fun vi _ => xs.length - (intOf vi).toNat)
  case atStart => exact ⟨0, rfl, by omega, hide (by simp [allIn]), hide (Below.refl _ _)⟩
  case round =>
    obtain ⟨k, rfl, hk, HAll, HB⟩ := hrel
    have hbz := Hbz.out
    have hwr : w.heap.size + 2 ≤ wr.heap.size := by have := HB.out.size; omega
    have q0 := (HB.out.block _ (by omega)).trans Hb0.out
    have q1 := (HB.out.block _ (by omega)).trans Hb1.out
    have Hbw := hide (Hbb.out.trans (HB.out.mono (by omega)))
    have Hst := hide (Hh.out.later Hbw.out)
    obtain ⟨s0, t0⟩ := one_cell q0
    obtain ⟨s1, t1⟩ := one_cell q1
    have Hq0 := hide q0; have Hq1 := hide q1
    clear hbz q0 q1
    by_cases hlt : k < xs.length
    · obtain ⟨b, off, rfl, hb, d0⟩ := HA.out.at_ k hlt
      obtain ⟨x, hx⟩ : ∃ x, xs[k] = x := ⟨_, rfl⟩
      have d1 := (Hbw.out.cell (p := ⟨b, off + k, none⟩) hb).trans d0
      rw [hx] at d1
      have Hx := hide hx
      have HIs := hide (fun W (hW : RSt W (.slice A0 R.nodes.length cap0) ad R) => ris_any hW x)
      clear d0 hx
      have hbl : b < wr.heap.size := by omega
      have hwl : w.heap.size < wr.heap.size := by omega
      have hwr0 : w.heap.size ≤ wr.heap.size := by omega
      have hwr1 : W0.heap.size ≤ wr.heap.size := HB.out.size
      cases hin : inB R.nodes.length x
      · rw [hin] at HIs
        have Herr : Hid (makeErr R.nodes.length kind name xs = 221) := hide (by unfold makeErr; rw [if_pos (allIn_not _ _ k hlt (by rw [Hx.out]; exact hin))])
        clear hin
        go_wp2
        go_region_held3 (fun w' => w'.cell? ⟨w.heap.size, 0, none⟩ = some (.slice A0 R.nodes.length cap0) ∧ w'.cell? ⟨b, off + k, none⟩ = some (.int .i64 x)) (go_keep)
          (first | (go_at_call 39; refine (HIs.out _ (Hst.out.later (by first | exact Below.refl _ _ | exact (Below.refl _ _).drew))).mono ?_; rintro e w' ⟨rfl, hb'⟩; have r0 := (hb'.cell (p := ⟨w.heap.size, 0, none⟩) hwl).trans s0; have r1 := (hb'.cell (p := ⟨b, off + k, none⟩) hbl).trans d1))
        have q1 := (hb'.block (w.heap.size + 1) (show w.heap.size + 1 < wr.heap.size by omega)).trans Hq1.out
        have Hbw' := hide (Hbw.out.trans ((Below.refl _ _).drew.trans (hb'.mono hwr0)))
        obtain ⟨s1', t1'⟩ := one_cell q1
        have Hq1' := hide q1
        clear s0 t0 s1 t1 d1 q1 hb' r1 hbl
        go_wp2
        have hz5 := blk_set Hq1'.out 0 (.slice A0 R.nodes.length cap0)
        obtain ⟨W5, hW5⟩ : ∃ W5, w'.setCell ⟨w.heap.size + 1, 0, none⟩ (.slice A0 R.nodes.length cap0) = W5 := ⟨_, rfl⟩
        have hpost : RMakeAny w (.slice A0 R.nodes.length cap0) ad R kind name xs (.returned (.tuple #[.agg #[.slice A0 R.nodes.length cap0], .int .i64 0, .int .i64 221])) W5 := by
          refine rmake_no Herr.out (by decide) ?_
          rw [← hW5]; exact Hbw'.out.setCell (p := ⟨w.heap.size + 1, 0, none⟩) (by simp) _
        rw [hW5] at hz5
        obtain ⟨k0, -⟩ := one_cell hz5
        simp only [hW5]
        clear hW5 hz5
        exact bodyPost_ret (v := .tuple #[.agg #[.slice A0 R.nodes.length cap0], .int .i64 0, .int .i64 221]) (by simp [results, Try.results35, go_sem, k0]) rfl hpost
      · rw [hin] at HIs
        have Hin := hide hin
        clear hin
        go_wp2
        go_region_held3 (fun w' => w'.cell? ⟨w.heap.size, 0, none⟩ = some (.slice A0 R.nodes.length cap0) ∧ w'.cell? ⟨b, off + k, none⟩ = some (.int .i64 x)) (go_keep)
          (first | (go_at_call 39; refine (HIs.out _ (Hst.out.later (by first | exact Below.refl _ _ | exact (Below.refl _ _).drew))).mono ?_; rintro e w' ⟨rfl, hb'⟩; have r0 := (hb'.cell (p := ⟨w.heap.size, 0, none⟩) hwl).trans s0; have r1 := (hb'.cell (p := ⟨b, off + k, none⟩) hbl).trans d1))
        have Hb' := hide (HB.out.trans ((Below.refl _ _).drew.trans (hb'.mono hwr1)))
        clear s0 t0 s1 t1 d1 hb' r0 r1 hbl
        go_wp2
        go_roundw
        case measure => simp [intOf]; omega
        case rel => exact ⟨k + 1, by go_num, by omega, hide (allIn_snoc _ _ k hlt HAll.out (by rw [Hx.out]; exact Hin.out)), Hb'⟩
    · obtain rfl : k = xs.length := by omega
      have Hall : Hid (allIn R.nodes.length xs = true) := hide (by have := HAll.out; rwa [List.take_of_length_le (Nat.le_refl _)] at this)
      have Hcast := hide (cast_toNat Hall.out).1
      have Hlen : Hid ((xs.map Int.toNat).length = xs.length) := hide (by simp)
      rcases Hkind.out with rfl | rfl | rfl
      · have HKd := hide (rkind_any name wr hs)
        by_cases hq : kindL name.toList = 1
        · rw [hq] at HKd
          have Herr : Hid (makeErr R.nodes.length 2 name xs = 0) := hide (by unfold makeErr; rw [if_neg (by simp [Hall.out]), if_neg (by simp [hq])])
          clear hq
          go_wp2_with fail
          refine HKd.out.mono ?_
          rintro e w' ⟨rfl, hb'⟩
          have Hbw' := hide (Hbw.out.trans (hb'.mono (by omega)))
          have q0 := (hb'.block (w.heap.size) (by omega)).trans Hq0.out
          have q1 := (hb'.block (w.heap.size + 1) (by omega)).trans Hq1.out
          obtain ⟨s0', t0'⟩ := one_cell q0
          have Hq0' := hide q0; have Hq1' := hide q1
          clear s0 t0 s1 t1 q0 q1 hb'
          have HAdd := hide (radd_any (Hh.out.later Hbw'.out) ⟨2, name, xs.map Int.toNat⟩ 0 A c (by unfold Nats; simp only; rw [Hcast.out]; exact Ints.below HA.out Hbw'.out) hm (by simp only; rw [Hlen.out]; exact hl))
          simp only [Hlen.out] at HAdd
          go_wp2_with fail
          refine HAdd.out.mono ?_
          rintro e w2 ⟨v', rfl, hp⟩
          obtain ⟨A', cap', hv', -, -⟩ : ∃ A' cap', v' = .slice A' (R.nodes.length + 1) cap' ∧ True ∧ True := by
            obtain ⟨ad', k1, -⟩ := hp
            obtain ⟨A', cap', e, -, -⟩ := own_len k1.own
            exact ⟨A', cap', by rw [e]; simp [RS.add], trivial, trivial⟩
          subst hv'
          have q1 : w2.heap[w.heap.size + 1]? = some (.cells #[.slice none 0 0] 29 (0, 0)) := by
            obtain ⟨ad', k1, k2, k3, k4⟩ := hp
            exact (k2.block _ (Array.getElem?_eq_some_iff.1 Hq1'.out).1 (fun hf => by have := Hh.out.lt _ hf; omega)).trans Hq1'.out
          have hz2 : w.heap.size + 1 < w2.heap.size := (Array.getElem?_eq_some_iff.1 q1).1
          obtain ⟨s1', t1'⟩ := one_cell q1
          have HP := hide hp; have Hq3 := hide q1
          clear hp q1 HAdd
          go_wp2
          have hq4 := blk_set Hq3.out 0 (.slice A' (R.nodes.length + 1) cap')
          have hz5 := (Below.heap_alloc (w2.setCell ⟨w.heap.size + 1, 0, none⟩ (.slice A' (R.nodes.length + 1) cap')) (.cells #[.slice A' (R.nodes.length + 1) cap'] 29) _ (Array.getElem?_eq_some_iff.1 hq4).1).trans hq4
          obtain ⟨W5, hW5⟩ : ∃ W5, (w2.setCell ⟨w.heap.size + 1, 0, none⟩ (.slice A' (R.nodes.length + 1) cap')).alloc (.cells #[.slice A' (R.nodes.length + 1) cap'] 29) = W5 := ⟨_, rfl⟩
          have hpost : RMakeAny w (.slice A0 R.nodes.length cap0) ad R 2 name xs (.returned (.tuple #[.agg #[.slice A' (R.nodes.length + 1) cap'], .int .i64 (R.nodes.length : Int), .int .i64 0])) W5 := by
            refine ⟨_, by unfold makeV; rw [Herr.out, if_pos rfl], .inl ⟨Herr.out, HP.out.shift (F := fun b => b = w.heap.size + 1) Hh.out Hbw'.out ?_ (fun b hb => ⟨by omega, .inl (by have := (Array.getElem?_eq_some_iff.1 Hq1'.out).1; omega)⟩)⟩⟩
            rw [← hW5]; exact ((Only.refl (fun b => b = w.heap.size + 1) w2).setCell (p := ⟨w.heap.size + 1, 0, none⟩) (.inl rfl) _).alloc _
          rw [hW5] at hz5
          obtain ⟨k0, -⟩ := one_cell hz5
          simp only [hW5]
          clear hW5 hz5 hq4 s1' t1'
          exact bodyPost_ret (v := .tuple #[.agg #[.slice A' (R.nodes.length + 1) cap'], .int .i64 (R.nodes.length : Int), .int .i64 0]) (by simp [results, Try.results35, go_sem, k0]) rfl hpost
        · have Herr : Hid (makeErr R.nodes.length 2 name xs = 120) := hide (by unfold makeErr; rw [if_neg (by simp [Hall.out]), if_pos (.inl ⟨rfl, hq⟩)])
          generalize kindL name.toList = K at *
          have hne : (K != 1) = true := by simpa using hq
          clear hq
          go_wp2_with fail
          refine HKd.out.mono ?_
          rintro e w' ⟨rfl, hb'⟩
          have Hbw' := hide (Hbw.out.trans (hb'.mono (by omega)))
          have q0 := (hb'.block (w.heap.size) (by omega)).trans Hq0.out
          have q1 := (hb'.block (w.heap.size + 1) (by omega)).trans Hq1.out
          obtain ⟨s0', t0'⟩ := one_cell q0
          obtain ⟨s1', t1'⟩ := one_cell q1
          have Hq1' := hide q1
          clear s0 t0 s1 t1 q0 q1 hb'
          go_wp2
          have hz5 := blk_set Hq1'.out 0 (.slice A0 R.nodes.length cap0)
          obtain ⟨W5, hW5⟩ : ∃ W5, w'.setCell ⟨w.heap.size + 1, 0, none⟩ (.slice A0 R.nodes.length cap0) = W5 := ⟨_, rfl⟩
          have hpost : RMakeAny w (.slice A0 R.nodes.length cap0) ad R 2 name xs (.returned (.tuple #[.agg #[.slice A0 R.nodes.length cap0], .int .i64 0, .int .i64 120])) W5 := by
            refine rmake_no Herr.out (by decide) ?_
            rw [← hW5]; exact Hbw'.out.setCell (p := ⟨w.heap.size + 1, 0, none⟩) (by simp) _
          rw [hW5] at hz5
          obtain ⟨k0, -⟩ := one_cell hz5
          simp only [hW5]
          clear hW5 hz5
          exact bodyPost_ret (v := .tuple #[.agg #[.slice A0 R.nodes.length cap0], .int .i64 0, .int .i64 120]) (by simp [results, Try.results35, go_sem, k0]) rfl hpost
      · by_cases hq : 2 ≤ xs.length
        · have Herr : Hid (makeErr R.nodes.length 3 name xs = 0) := hide (by unfold makeErr; rw [if_neg (by simp [Hall.out]), if_neg (by rintro (⟨h, _⟩ | ⟨_, h⟩); exact absurd h (by decide); omega)])
          have d2 : decide ((xs.length : Int) < 2) = false := by simp; omega
          clear s1 t1
          have HAdd := hide (radd_any (Hh.out.later Hbw.out) ⟨3, name, xs.map Int.toNat⟩ 0 A c (by unfold Nats; simp only; rw [Hcast.out]; exact Ints.below HA.out Hbw.out) hm (by simp only; rw [Hlen.out]; exact hl))
          simp only [Hlen.out] at HAdd
          go_wp2_with fail
          refine HAdd.out.mono ?_
          rintro e w2 ⟨v', rfl, hp⟩
          obtain ⟨A', cap', hv', -, -⟩ : ∃ A' cap', v' = .slice A' (R.nodes.length + 1) cap' ∧ True ∧ True := by
            obtain ⟨ad', k1, -⟩ := hp
            obtain ⟨A', cap', e, -, -⟩ := own_len k1.own
            exact ⟨A', cap', by rw [e]; simp [RS.add], trivial, trivial⟩
          subst hv'
          have q1 : w2.heap[w.heap.size + 1]? = some (.cells #[.slice none 0 0] 29 (0, 0)) := by
            obtain ⟨ad', k1, k2, k3, k4⟩ := hp
            exact (k2.block _ (Array.getElem?_eq_some_iff.1 Hq1.out).1 (fun hf => by have := Hh.out.lt _ hf; omega)).trans Hq1.out
          have hz2 : w.heap.size + 1 < w2.heap.size := (Array.getElem?_eq_some_iff.1 q1).1
          obtain ⟨s1', t1'⟩ := one_cell q1
          have HP := hide hp; have Hq3 := hide q1
          clear hp q1 HAdd
          go_wp2
          have hq4 := blk_set Hq3.out 0 (.slice A' (R.nodes.length + 1) cap')
          have hz5 := (Below.heap_alloc (w2.setCell ⟨w.heap.size + 1, 0, none⟩ (.slice A' (R.nodes.length + 1) cap')) (.cells #[.slice A' (R.nodes.length + 1) cap'] 29) _ (Array.getElem?_eq_some_iff.1 hq4).1).trans hq4
          obtain ⟨W5, hW5⟩ : ∃ W5, (w2.setCell ⟨w.heap.size + 1, 0, none⟩ (.slice A' (R.nodes.length + 1) cap')).alloc (.cells #[.slice A' (R.nodes.length + 1) cap'] 29) = W5 := ⟨_, rfl⟩
          have hpost : RMakeAny w (.slice A0 R.nodes.length cap0) ad R 3 name xs (.returned (.tuple #[.agg #[.slice A' (R.nodes.length + 1) cap'], .int .i64 (R.nodes.length : Int), .int .i64 0])) W5 := by
            refine ⟨_, by unfold makeV; rw [Herr.out, if_pos rfl], .inl ⟨Herr.out, HP.out.shift (F := fun b => b = w.heap.size + 1) Hh.out Hbw.out ?_ (fun b hb => ⟨by omega, .inl (by have := (Array.getElem?_eq_some_iff.1 Hq1.out).1; omega)⟩)⟩⟩
            rw [← hW5]; exact ((Only.refl (fun b => b = w.heap.size + 1) w2).setCell (p := ⟨w.heap.size + 1, 0, none⟩) (.inl rfl) _).alloc _
          rw [hW5] at hz5
          obtain ⟨k0, -⟩ := one_cell hz5
          simp only [hW5]
          clear hW5 hz5 hq4 s1' t1'
          exact bodyPost_ret (v := .tuple #[.agg #[.slice A' (R.nodes.length + 1) cap'], .int .i64 (R.nodes.length : Int), .int .i64 0]) (by simp [results, Try.results35, go_sem, k0]) rfl hpost
        · have Herr : Hid (makeErr R.nodes.length 3 name xs = 120) := hide (by unfold makeErr; rw [if_neg (by simp [Hall.out]), if_pos (.inr ⟨rfl, by omega⟩)])
          have d2 : decide ((xs.length : Int) < 2) = true := by simp; omega
          go_wp2
          have hz5 := blk_set Hq1.out 0 (.slice A0 R.nodes.length cap0)
          obtain ⟨W5, hW5⟩ : ∃ W5, wr.setCell ⟨w.heap.size + 1, 0, none⟩ (.slice A0 R.nodes.length cap0) = W5 := ⟨_, rfl⟩
          have hpost : RMakeAny w (.slice A0 R.nodes.length cap0) ad R 3 name xs (.returned (.tuple #[.agg #[.slice A0 R.nodes.length cap0], .int .i64 0, .int .i64 120])) W5 := by
            refine rmake_no Herr.out (by decide) ?_
            rw [← hW5]; exact Hbw.out.setCell (p := ⟨w.heap.size + 1, 0, none⟩) (by simp) _
          rw [hW5] at hz5
          obtain ⟨k0, -⟩ := one_cell hz5
          simp only [hW5]
          clear hW5 hz5
          exact bodyPost_ret (v := .tuple #[.agg #[.slice A0 R.nodes.length cap0], .int .i64 0, .int .i64 120]) (by simp [results, Try.results35, go_sem, k0]) rfl hpost
      · have Herr : Hid (makeErr R.nodes.length 4 name xs = 0) := hide (by unfold makeErr; rw [if_neg (by simp [Hall.out]), if_neg (by rintro (⟨h, _⟩ | ⟨h, _⟩) <;> exact absurd h (by decide))])
        clear s1 t1
        have HAdd := hide (radd_any (Hh.out.later Hbw.out) ⟨4, name, xs.map Int.toNat⟩ 0 A c (by unfold Nats; simp only; rw [Hcast.out]; exact Ints.below HA.out Hbw.out) hm (by simp only; rw [Hlen.out]; exact hl))
        simp only [Hlen.out] at HAdd
        go_wp2_with fail
        refine HAdd.out.mono ?_
        rintro e w2 ⟨v', rfl, hp⟩
        obtain ⟨A', cap', hv', -, -⟩ : ∃ A' cap', v' = .slice A' (R.nodes.length + 1) cap' ∧ True ∧ True := by
          obtain ⟨ad', k1, -⟩ := hp
          obtain ⟨A', cap', e, -, -⟩ := own_len k1.own
          exact ⟨A', cap', by rw [e]; simp [RS.add], trivial, trivial⟩
        subst hv'
        have q1 : w2.heap[w.heap.size + 1]? = some (.cells #[.slice none 0 0] 29 (0, 0)) := by
          obtain ⟨ad', k1, k2, k3, k4⟩ := hp
          exact (k2.block _ (Array.getElem?_eq_some_iff.1 Hq1.out).1 (fun hf => by have := Hh.out.lt _ hf; omega)).trans Hq1.out
        have hz2 : w.heap.size + 1 < w2.heap.size := (Array.getElem?_eq_some_iff.1 q1).1
        obtain ⟨s1', t1'⟩ := one_cell q1
        have HP := hide hp; have Hq3 := hide q1
        clear hp q1 HAdd
        go_wp2
        have hq4 := blk_set Hq3.out 0 (.slice A' (R.nodes.length + 1) cap')
        have hz5 := (Below.heap_alloc (w2.setCell ⟨w.heap.size + 1, 0, none⟩ (.slice A' (R.nodes.length + 1) cap')) (.cells #[.slice A' (R.nodes.length + 1) cap'] 29) _ (Array.getElem?_eq_some_iff.1 hq4).1).trans hq4
        obtain ⟨W5, hW5⟩ : ∃ W5, (w2.setCell ⟨w.heap.size + 1, 0, none⟩ (.slice A' (R.nodes.length + 1) cap')).alloc (.cells #[.slice A' (R.nodes.length + 1) cap'] 29) = W5 := ⟨_, rfl⟩
        have hpost : RMakeAny w (.slice A0 R.nodes.length cap0) ad R 4 name xs (.returned (.tuple #[.agg #[.slice A' (R.nodes.length + 1) cap'], .int .i64 (R.nodes.length : Int), .int .i64 0])) W5 := by
          refine ⟨_, by unfold makeV; rw [Herr.out, if_pos rfl], .inl ⟨Herr.out, HP.out.shift (F := fun b => b = w.heap.size + 1) Hh.out Hbw.out ?_ (fun b hb => ⟨by omega, .inl (by have := (Array.getElem?_eq_some_iff.1 Hq1.out).1; omega)⟩)⟩⟩
          rw [← hW5]; exact ((Only.refl (fun b => b = w.heap.size + 1) w2).setCell (p := ⟨w.heap.size + 1, 0, none⟩) (.inl rfl) _).alloc _
        rw [hW5] at hz5
        obtain ⟨k0, -⟩ := one_cell hz5
        simp only [hW5]
        clear hW5 hz5 hq4 s1' t1'
        exact bodyPost_ret (v := .tuple #[.agg #[.slice A' (R.nodes.length + 1) cap'], .int .i64 (R.nodes.length : Int), .int .i64 0]) (by simp [results, Try.results35, go_sem, k0]) rfl hpost
end Go.Proofs.Ytafpbdmggnfdnaa
