/- The program's store: put. -/
import Derived.Test.YtafpbdmggnfdnaaStoreForm
import Derived.Deep.QuietTactic
import Derived.BigQuiet
namespace Go.Proofs.Ytafpbdmggnfdnaa
open Go.RowKit
set_option linter.unusedVariables false

theorem nats_set (l : List Nat) (i n : Nat) : nats (l.set i n) = (nats l).set i (.int .i64 (n : Int)) := by simp [nats, List.map_set]
section
variable {w : World} {base : Nat} {L : Lay} {S : PS}
theorem St.free (h : St w base L S) {v : Value} (hv : v = L.vn ∨ v = L.va ∨ v = L.vr ∨ v = L.vf) {b m cap : Nat} (e : v = .slice (some ⟨b, 0, none⟩) m cap) (j : Nat) : w.frozen? ⟨b, j, none⟩ = false := by
  have key : ∀ {t size n : Nat} {xs : List Value}, w.ownsRow base t size v n xs → w.frozen? ⟨b, j, none⟩ = false := by
    intro t size n xs ho
    rcases ho.2 with ⟨h1, _⟩ | ⟨g, cap', cur, h1, _, h3, _⟩
    · rw [e] at h1; cases h1
    · rw [e] at h1
      injection h1 with h1 _ _
      injection h1 with h1
      injection h1 with h1
      subst h1
      simp [World.frozen?, h3]
  rcases hv with e1 | e1 | e1 | e1
  · exact key (e1 ▸ h.nodes)
  · exact key (e1 ▸ h.above)
  · exact key (e1 ▸ h.ranks)
  · exact key (e1 ▸ h.forms)
/-- A store into one of the rows of numbers. -/
theorem St.set_above (h : St w base L S) {b m cap : Nat} (hv : L.va = .slice (some ⟨b, 0, none⟩) m cap) (i n : Nat) : St (w.setCell ⟨b, i, none⟩ (.int .i64 (n : Int))) base L { S with above := S.above.set i n } := by
  obtain ⟨A', c', e1, _, _⟩ := own_len h.above
  have hm : m = S.nodes.length := by rw [hv] at e1; injection e1
  subst hm
  have hb : L.va.ownBlock = some b := by rw [hv]; rfl
  have ho := h.above
  rw [hv] at ho
  have ho' := ho.stored i (.int .i64 (n : Int))
  rw [← nats_set] at ho'
  have hne : ∀ v : Value, v.ownBlock ≠ some b → ∀ k, v.ownBlock = some k → (w.setCell ⟨b, i, none⟩ (.int .i64 (n : Int))).heap[k]? = w.heap[k]? := fun v hvb k hk => Below.heap_setCell w _ _ k (by rintro rfl; exact hvb hk)
  have hon : Only (fun k => k = b) w (w.setCell ⟨b, i, none⟩ (.int .i64 (n : Int))) := (Only.refl (fun k => k = b) w).setCell (p := ⟨b, i, none⟩) (.inl rfl) _
  refine ⟨(Below.heap_setCell w _ _ L.g (by rintro e; exact own_blk h.above h.blk (by decide) (by rw [hb, e]))).trans h.blk, h.low, own_keep h.nodes (hne _ (own_ne h.above h.nodes (by decide) b hb)), by rw [hv]; exact ho'.1, own_keep h.ranks (hne _ (h.ar b hb)), own_keep h.forms (hne _ (h.af b hb)), h.ar, h.af, h.rf, h.ad, fun k p a hk ha => ?_, h.many, h.few⟩
  obtain ⟨g1, g2⟩ := h.args k p a hk ha
  exact ⟨Ints.only g1 hon fun x e e' => (g2 x e).2 (.inr (.inr (.inl (by rw [hb, e'])))), fun x e => ⟨Nat.lt_of_lt_of_le (g2 x e).1 hon.size, (g2 x e).2⟩⟩
theorem St.set_ranks (h : St w base L S) {b m cap : Nat} (hv : L.vr = .slice (some ⟨b, 0, none⟩) m cap) (i n : Nat) : St (w.setCell ⟨b, i, none⟩ (.int .i64 (n : Int))) base L { S with ranks := S.ranks.set i n } := by
  obtain ⟨A', c', e1, _, _⟩ := own_len h.ranks
  have hm : m = S.nodes.length := by rw [hv] at e1; injection e1
  subst hm
  have hb : L.vr.ownBlock = some b := by rw [hv]; rfl
  have ho := h.ranks
  rw [hv] at ho
  have ho' := ho.stored i (.int .i64 (n : Int))
  rw [← nats_set] at ho'
  have hne : ∀ v : Value, v.ownBlock ≠ some b → ∀ k, v.ownBlock = some k → (w.setCell ⟨b, i, none⟩ (.int .i64 (n : Int))).heap[k]? = w.heap[k]? := fun v hvb k hk => Below.heap_setCell w _ _ k (by rintro rfl; exact hvb hk)
  have hon : Only (fun k => k = b) w (w.setCell ⟨b, i, none⟩ (.int .i64 (n : Int))) := (Only.refl (fun k => k = b) w).setCell (p := ⟨b, i, none⟩) (.inl rfl) _
  refine ⟨(Below.heap_setCell w _ _ L.g (by rintro e; exact own_blk h.ranks h.blk (by decide) (by rw [hb, e]))).trans h.blk, h.low, own_keep h.nodes (hne _ (own_ne h.ranks h.nodes (by decide) b hb)), own_keep h.above (hne _ (fun e => h.ar b e hb)), by rw [hv]; exact ho'.1, own_keep h.forms (hne _ (h.rf b hb)), h.ar, h.af, h.rf, h.ad, fun k p a hk ha => ?_, h.many, h.few⟩
  obtain ⟨g1, g2⟩ := h.args k p a hk ha
  exact ⟨Ints.only g1 hon fun x e e' => (g2 x e).2 (.inr (.inr (.inr (.inl (by rw [hb, e']))))), fun x e => ⟨Nat.lt_of_lt_of_le (g2 x e).1 hon.size, (g2 x e).2⟩⟩
theorem St.set_forms (h : St w base L S) {b m cap : Nat} (hv : L.vf = .slice (some ⟨b, 0, none⟩) m cap) (i n : Nat) : St (w.setCell ⟨b, i, none⟩ (.int .i64 (n : Int))) base L { S with forms := S.forms.set i n } := by
  obtain ⟨A', c', e1, _, _⟩ := own_len h.forms
  have hm : m = S.nodes.length := by rw [hv] at e1; injection e1
  subst hm
  have hb : L.vf.ownBlock = some b := by rw [hv]; rfl
  have ho := h.forms
  rw [hv] at ho
  have ho' := ho.stored i (.int .i64 (n : Int))
  rw [← nats_set] at ho'
  have hne : ∀ v : Value, v.ownBlock ≠ some b → ∀ k, v.ownBlock = some k → (w.setCell ⟨b, i, none⟩ (.int .i64 (n : Int))).heap[k]? = w.heap[k]? := fun v hvb k hk => Below.heap_setCell w _ _ k (by rintro rfl; exact hvb hk)
  have hon : Only (fun k => k = b) w (w.setCell ⟨b, i, none⟩ (.int .i64 (n : Int))) := (Only.refl (fun k => k = b) w).setCell (p := ⟨b, i, none⟩) (.inl rfl) _
  refine ⟨(Below.heap_setCell w _ _ L.g (by rintro e; exact own_blk h.forms h.blk (by decide) (by rw [hb, e]))).trans h.blk, h.low, own_keep h.nodes (hne _ (own_ne h.forms h.nodes (by decide) b hb)), own_keep h.above (hne _ (fun e => h.af b e hb)), own_keep h.ranks (hne _ (fun e => h.rf b e hb)), by rw [hv]; exact ho'.1, h.ar, h.af, h.rf, h.ad, fun k p a hk ha => ?_, h.many, h.few⟩
  obtain ⟨g1, g2⟩ := h.args k p a hk ha
  exact ⟨Ints.only g1 hon fun x e e' => (g2 x e).2 (.inr (.inr (.inr (.inr (by rw [hb, e']))))), fun x e => ⟨Nat.lt_of_lt_of_le (g2 x e).1 hon.size, (g2 x e).2⟩⟩
end

theorem St.drew {w : World} {base : Nat} {L : Lay} {S : PS} (h : St w base L S) : St w.drew base L S := ⟨h.blk, h.low, h.nodes, h.above, h.ranks, h.forms, h.ar, h.af, h.rf, h.ad, h.args, h.many, h.few⟩
theorem St.drewN {w : World} {base : Nat} {L : Lay} {S : PS} (h : St w base L S) (n : Nat) : St (w.drewN n) base L S := ⟨h.blk, h.low, h.nodes, h.above, h.ranks, h.forms, h.ar, h.af, h.rf, h.ad, h.args, h.many, h.few⟩
/-- A store into a block that is newer than the store. -/
theorem St.far {w W : World} {base : Nat} {L : Lay} {S S' : PS} (h0 : St w base L S') (h : St W base L S) (b i : Nat) (hb : w.heap.size ≤ b) (u : Value) : St (W.setCell ⟨b, i, none⟩ u) base L S := by
  refine h.only (F := fun k => k = b) ((Only.refl (fun k => k = b) W).setCell (p := ⟨b, i, none⟩) (.inl rfl) u) (fun k hk _ hf => ?_) (fun j a ha x hx hk => ?_)
  · have := (h0.fp_lt k hf).2; omega
  · have hj : j < S'.nodes.length := by rw [← h0.ad]; exact (List.getElem?_eq_some_iff.1 ha).1
    have := ((h0.args j _ a (List.getElem?_eq_getElem hj) ha).2 x hx).1
    omega
def set4 (W : World) (g : Nat) (u0 u1 u2 u3 : Value) : World := (((W.setCell ⟨g, 0, none⟩ u0).setCell ⟨g, 1, none⟩ u1).setCell ⟨g, 2, none⟩ u2).setCell ⟨g, 3, none⟩ u3
theorem set4_cells (W : World) (g : Nat) (u0 u1 u2 u3 v0 v1 v2 v3 : Value) (h0 : W.cell? ⟨g, 0, none⟩ = some v0) (h1 : W.cell? ⟨g, 1, none⟩ = some v1) (h2 : W.cell? ⟨g, 2, none⟩ = some v2) (h3 : W.cell? ⟨g, 3, none⟩ = some v3) :
    (set4 W g u0 u1 u2 u3).cell? ⟨g, 0, none⟩ = some u0 ∧ (set4 W g u0 u1 u2 u3).cell? ⟨g, 1, none⟩ = some u1 ∧ (set4 W g u0 u1 u2 u3).cell? ⟨g, 2, none⟩ = some u2 ∧ (set4 W g u0 u1 u2 u3).cell? ⟨g, 3, none⟩ = some u3 := by
  have ne : ∀ {j k : Nat}, j ≠ k → (⟨g, j, none⟩ : Addr) ≠ ⟨g, k, none⟩ := fun h e => by injection e with _ e; exact h e
  unfold set4
  refine ⟨?_, ?_, ?_, ?_⟩
  · rw [World.cell?_setCell_other _ _ _ _ (ne (by decide)), World.cell?_setCell_other _ _ _ _ (ne (by decide)), World.cell?_setCell_other _ _ _ _ (ne (by decide))]
    exact World.cell?_setCell_same' _ _ _ (by rw [h0]; rfl)
  · rw [World.cell?_setCell_other _ _ _ _ (ne (by decide)), World.cell?_setCell_other _ _ _ _ (ne (by decide))]
    exact World.cell?_setCell_same' _ _ _ (by rw [World.cell?_setCell_other _ _ _ _ (ne (by decide)), h1]; rfl)
  · rw [World.cell?_setCell_other _ _ _ _ (ne (by decide))]
    exact World.cell?_setCell_same' _ _ _ (by rw [World.cell?_setCell_other _ _ _ _ (ne (by decide)), World.cell?_setCell_other _ _ _ _ (ne (by decide)), h2]; rfl)
  · exact World.cell?_setCell_same' _ _ _ (by rw [World.cell?_setCell_other _ _ _ _ (ne (by decide)), World.cell?_setCell_other _ _ _ _ (ne (by decide)), World.cell?_setCell_other _ _ _ _ (ne (by decide)), h3]; rfl)
/-- x is put under y. -/
def PS.put (S : PS) (x y : Nat) (v : Bool) : PS :=
  { S with forms := if v then S.forms.set y (par S.forms x) else S.forms, ranks := if par S.ranks x = par S.ranks y then S.ranks.set y (par S.ranks y + 1) else S.ranks, above := S.above.set x y }
def stepV (S : PS) (x y : Nat) : List Value := [.int .i64 (x : Int), .int .i64 (y : Int), .int .i64 (par S.forms y : Int), .int .i64 (par S.ranks y : Int)]
def PutPost (w : World) (base : Nat) (L : Lay) (S : PS) (x y : Nat) (v : Bool) (e : Ending) (w' : World) : Prop :=
  e = .returned (.agg #[.int .i64 (x : Int), .int .i64 (y : Int), .int .i64 (par S.forms y : Int), .int .i64 (par S.ranks y : Int)]) ∧ St w' base L (S.put x y v) ∧ Only L.fq w w'

set_option maxRecDepth 100000 in
set_option maxHeartbeats 4000000 in
theorem put_any {w : World} {base : Nat} {L : Lay} {S : PS} {c d : Nat → Nat} (h : St w base L S) (hf : Forest S.nodes.length (par S.above) c d) (a b x y : Nat) (hx : x < S.nodes.length) (hy : y < S.nodes.length) (hxy : x ≠ y) (cy : c y = y) (p : Nd) (hp : S.nodes[par S.forms y]? = some p)
    (hr : ∀ i, par S.ranks i ≤ 1000000) (H : (a = x ∧ b = y ∧ par S.ranks x ≤ par S.ranks y) ∨ (a = y ∧ b = x ∧ par S.ranks x < par S.ranks y)) :
    Calls Try.prog 63 #[.pointer (some ⟨L.g, 0, none⟩), .int .i64 (a : Int), .int .i64 (b : Int)] w (PutPost w base L S x y (decide (p.kind = 1))) := by
  obtain ⟨ba, ca, hva, hca⟩ := own_pos h.above (by omega)
  obtain ⟨br, cr, hvr, hcr⟩ := own_pos h.ranks (by omega)
  obtain ⟨bf, cf, hvf, hcf⟩ := own_pos h.forms (by omega)
  obtain ⟨-, g1, g2, g3⟩ := h.gcell
  have hm := h.many
  have hla := h.la; have hlr := h.lr; have hlf := h.lf
  have ax := own_nat h.above hva x (by omega)
  have rx := own_nat h.ranks hvr x (by omega)
  have ry := own_nat h.ranks hvr y (by omega)
  have fx := own_nat h.forms hvf x (by omega)
  have fy := own_nat h.forms hvf y (by omega)
  rw [par_at (by omega)] at ax rx ry fx fy
  have hrx := hr x
  have hry := hr y
  rw [hva] at g1; rw [hvr] at g2; rw [hvf] at g3
  have HH := hide h
  have HFm := hide (fun W (hW : St W base L S) => form_any hW hf y hy p (by rw [cy]; exact hp))
  have Hva := hide hva; have Hvr := hide hvr; have Hvf := hide hvf
  have glt := h.glt
  have alt : ba < w.heap.size := (h.above.lt ba (by rw [hva]; rfl)).2
  have rlt : br < w.heap.size := (h.ranks.lt br (by rw [hvr]; rfl)).2
  have flt : bf < w.heap.size := (h.forms.lt bf (by rw [hvf]; rfl)).2
  clear hva hvr hvf hla hlr hlf hp cy hf h hr
  obtain ⟨PX, hPX⟩ : ∃ X, par S.ranks x = X := ⟨_, rfl⟩
  obtain ⟨PY, hPY⟩ : ∃ X, par S.ranks y = X := ⟨_, rfl⟩
  obtain ⟨FX, hFX⟩ : ∃ X, par S.forms x = X := ⟨_, rfl⟩
  obtain ⟨FY, hFY⟩ : ∃ X, par S.forms y = X := ⟨_, rfl⟩
  rw [hPX, hPY] at H
  rw [hPX] at rx hrx; rw [hPY] at ry hry; rw [hFX] at fx; rw [hFY] at fy
  have HPX := hide hPX; have HPY := hide hPY; have HFX := hide hFX; have HFY := hide hFY
  clear hPX hPY hFX hFY
  have H' : (x = a ∧ y = b ∧ decide (PY < PX) = false) ∨ (y = a ∧ x = b ∧ decide (PX < PY) = true) := by
    rcases H with ⟨h1, h2, h3⟩ | ⟨h1, h2, h3⟩
    · exact .inl ⟨h1.symm, h2.symm, by simp; omega⟩
    · exact .inr ⟨h1.symm, h2.symm, by simp; omega⟩
  have hle : PX ≤ PY := by omega
  clear H
  have hfr : bf ≠ br := fun e => HH.out.rf br (by rw [Hvr.out]; rfl) (by rw [Hvf.out, e]; rfl)
  have har : ba ≠ br := fun e => HH.out.ar ba (by rw [Hva.out]; rfl) (by rw [Hvr.out, e]; rfl)
  have haf : ba ≠ bf := fun e => HH.out.af ba (by rw [Hva.out]; rfl) (by rw [Hvf.out, e]; rfl)
  have hga : L.g ≠ ba := fun e => own_blk HH.out.above HH.out.blk (by decide) (by rw [Hva.out, e]; rfl)
  have hgr : L.g ≠ br := fun e => own_blk HH.out.ranks HH.out.blk (by decide) (by rw [Hvr.out, e]; rfl)
  have hgf : L.g ≠ bf := fun e => own_blk HH.out.forms HH.out.blk (by decide) (by rw [Hvf.out, e]; rfl)
  have Hr := hide hfr; have Har := hide har; have Haf := hide haf; have Hga := hide hga; have Hgr := hide hgr; have Hgf := hide hgf
  clear hfr har haf hga hgr hgf
  rcases H' with H' | H'
  all_goals
    obtain ⟨rfl, rfl, d1⟩ := H'
    go_enter Try.func63, Try.ntmps63
    go_wp2
    go_quiet (fail)
    go_upto_region 3 with fail
    go_region_held3 (fun w' => w'.cell? ⟨L.g, 3, none⟩ = some (.slice (some ⟨bf, 0, none⟩) S.nodes.length cf) ∧ w'.cell? ⟨L.g, 2, none⟩ = some (.slice (some ⟨br, 0, none⟩) S.nodes.length cr) ∧ w'.cell? ⟨bf, y, none⟩ = some (.int .i64 (FY : Int)) ∧ w'.cell? ⟨br, y, none⟩ = some (.int .i64 (PY : Int))) (go_keep) (fail)
    go_upto_region 4 with fail
    obtain ⟨W3, hW3⟩ : ∃ W3, ((w.alloc (.cells #[.int .i64 0, .int .i64 0, .int .i64 0, .int .i64 0] 108)).drewN (nq + 1)).alloc (.cells #[.int .i64 (x : Int), .int .i64 (y : Int), .int .i64 (FY : Int), .int .i64 (PY : Int)] 108) = W3 := ⟨_, rfl⟩
    have hb3 : Below w.heap.size w W3 := by rw [← hW3]; exact (below_drewN ((Below.refl w.heap.size w).alloc (Nat.le_refl _) _) _).alloc (by simp) _
    have hz3 : W3.heap.size = w.heap.size + 2 := by rw [← hW3]; simp
    have hs3 : W3.heap[w.heap.size + 1]? = some (.cells #[.int .i64 (x : Int), .int .i64 (y : Int), .int .i64 (FY : Int), .int .i64 (PY : Int)] 108 (0, 0)) := by
      rw [← hW3]; have := heap_alloc_new ((w.alloc (.cells #[.int .i64 0, .int .i64 0, .int .i64 0, .int .i64 0] 108)).drewN (nq + 1)) (.cells #[.int .i64 (x : Int), .int .i64 (y : Int), .int .i64 (FY : Int), .int .i64 (PY : Int)] 108); simpa using this
    have hr3 : W3.heap[w.heap.size]? = some (.cells #[.int .i64 0, .int .i64 0, .int .i64 0, .int .i64 0] 108 (0, 0)) := by
      rw [← hW3, Below.heap_alloc _ _ _ (by simp)]; exact heap_alloc_new w _
    clear d1
    simp only [hW3]
    clear hW3
    go_wp2_with fail
    refine (HFm.out W3 (HH.out.later hb3)).mono ?_
    rintro e w4 ⟨ad4, -, rfl, hb4⟩
    have hbw4 : Below w.heap.size w w4 := hb3.trans (hb4.mono hb3.size)
    have H4 := hide (HH.out.later hbw4)
    have hz4 : w.heap.size + 2 ≤ w4.heap.size := by have := hb4.size; omega
    have S4 : Hid (w4.heap[w.heap.size + 1]? = some (.cells #[.int .i64 (x : Int), .int .i64 (y : Int), .int .i64 (FY : Int), .int .i64 (PY : Int)] 108 (0, 0))) := hide ((hb4.block _ (by omega)).trans hs3)
    have R4 : Hid (w4.heap[w.heap.size]? = some (.cells #[.int .i64 0, .int .i64 0, .int .i64 0, .int .i64 0] 108 (0, 0))) := hide ((hb4.block _ (by omega)).trans hr3)
    have G1 : w4.cell? ⟨L.g, 1, none⟩ = some (.slice (some ⟨ba, 0, none⟩) S.nodes.length ca) := (hbw4.cell glt).trans g1
    have G2 : w4.cell? ⟨L.g, 2, none⟩ = some (.slice (some ⟨br, 0, none⟩) S.nodes.length cr) := (hbw4.cell glt).trans g2
    have G3 : w4.cell? ⟨L.g, 3, none⟩ = some (.slice (some ⟨bf, 0, none⟩) S.nodes.length cf) := (hbw4.cell glt).trans g3
    have FX4 : w4.cell? ⟨bf, x, none⟩ = some (.int .i64 (FX : Int)) := (hbw4.cell flt).trans fx
    have FY4 : w4.cell? ⟨bf, y, none⟩ = some (.int .i64 (FY : Int)) := (hbw4.cell flt).trans fy
    have fz4 : w4.frozen? ⟨bf, y, none⟩ = false := H4.out.free (.inr (.inr (.inr rfl))) Hvf.out y
    have O4 := hide (Only.of_below hbw4 L.fq)
    clear hbw4 hb4 hs3 hr3 hb3 hz3 g1 g2 g3 fx fy ax rx ry W3
    have fl0 := nd_kind
    rcases Decidable.em (p.kind = 1) with hk | hk
    case' inl =>
      have k46 : (p.kind == 1) = true := by simpa using hk
      have Hk := hide hk; clear hk
      go_upto_region 5 with fail
      have K1 : Hid ((w4.setCell ⟨bf, y, none⟩ (.int .i64 (FX : Int))).drew.cell? ⟨L.g, 3, none⟩ = some (.slice (some ⟨bf, 0, none⟩) S.nodes.length cf)) := hide ((World.cell?_setCell_other w4 _ _ _ (by intro e; injection e with e1 e2; exact Hgf.out e1.symm)).trans G3)
      have K2 : Hid ((w4.setCell ⟨bf, y, none⟩ (.int .i64 (FX : Int))).drew.cell? ⟨bf, x, none⟩ = some (.int .i64 (FX : Int))) := hide ((World.cell?_setCell_other w4 _ _ _ (by intro e; injection e with e1 e2; omega)).trans FX4)
      go_region_held3 (fun w' => w'.cell? ⟨L.g, 3, none⟩ = some (.slice (some ⟨bf, 0, none⟩) S.nodes.length cf) ∧ w'.cell? ⟨bf, x, none⟩ = some (.int .i64 (FX : Int))) (first | exact ⟨K1.out, K2.out⟩ | go_keep) (fail)
      obtain ⟨W5, hW5⟩ : ∃ W5, (w4.setCell ⟨bf, y, none⟩ (.int .i64 (FX : Int))).drew = W5 := ⟨_, rfl⟩
      have H5 : Hid (St W5 base L { S with forms := S.forms.set y FX }) := hide (by rw [← hW5]; exact St.drew (H4.out.set_forms Hvf.out y FX))
      have O5 : Hid (Only L.fq w W5) := hide (by rw [← hW5]; exact (O4.out.setCell (p := ⟨bf, y, none⟩) (.inl (.inr (.inr (by rw [Hvf.out]; rfl)))) _).drew)
      have S5 : Hid (W5.heap[w.heap.size + 1]? = some (.cells #[.int .i64 (x : Int), .int .i64 (y : Int), .int .i64 (FY : Int), .int .i64 (PY : Int)] 108 (0, 0))) := hide (by rw [← hW5]; exact (Below.heap_setCell w4 ⟨bf, y, none⟩ _ _ (by simp only; omega)).trans S4.out)
      have R5 : Hid (W5.heap[w.heap.size]? = some (.cells #[.int .i64 0, .int .i64 0, .int .i64 0, .int .i64 0] 108 (0, 0))) := hide (by rw [← hW5]; exact (Below.heap_setCell w4 ⟨bf, y, none⟩ _ _ (by simp only; omega)).trans R4.out)
      obtain ⟨F5, hF5⟩ : ∃ F5, S.forms.set y FX = F5 := ⟨_, rfl⟩
      rw [hF5] at H5
      have HF5 : Hid (F5 = if decide (p.kind = 1) = true then S.forms.set y (par S.forms x) else S.forms) := hide (by rw [if_pos (by simpa using Hk.out), HFX.out, hF5])
      simp only [hW5]
      clear hW5 hF5 K1 K2
      go_upto_region 6 with fail
    case' inr =>
      have k46 : (p.kind == 1) = false := by simpa using hk
      have Hk := hide hk; clear hk
      go_upto_region 6 with fail
      obtain ⟨F5, hF5⟩ : ∃ F5, S.forms = F5 := ⟨_, rfl⟩
      obtain ⟨W5, hW5⟩ : ∃ W5, w4 = W5 := ⟨_, rfl⟩
      have H5 : Hid (St W5 base L { S with forms := F5 }) := hide (by rw [← hW5, ← hF5]; exact H4.out)
      have O5 : Hid (Only L.fq w W5) := hide (by rw [← hW5]; exact O4.out)
      have S5 : Hid (W5.heap[w.heap.size + 1]? = some (.cells #[.int .i64 (x : Int), .int .i64 (y : Int), .int .i64 (FY : Int), .int .i64 (PY : Int)] 108 (0, 0))) := hide (by rw [← hW5]; exact S4.out)
      have R5 : Hid (W5.heap[w.heap.size]? = some (.cells #[.int .i64 0, .int .i64 0, .int .i64 0, .int .i64 0] 108 (0, 0))) := hide (by rw [← hW5]; exact R4.out)
      have HF5 : Hid (F5 = if decide (p.kind = 1) = true then S.forms.set y (par S.forms x) else S.forms) := hide (by rw [if_neg (by simpa using Hk.out), hF5])
      simp only [hW5]
      clear hW5 hF5
    all_goals
      clear G1 G2 G3 FX4 FY4 fz4 H4 O4 S4 R4 hz4 k46
      obtain ⟨-, G1, G2, -⟩ := H5.out.gcell
      rw [Hva.out] at G1; rw [Hvr.out] at G2
      have hl5 := H5.out.lr
      have rx := own_nat H5.out.ranks Hvr.out x (by rw [hl5]; exact hx)
      have ry := own_nat H5.out.ranks Hvr.out y (by rw [hl5]; exact hy)
      rw [par_at (by rw [hl5]; exact hx)] at rx
      rw [par_at (by rw [hl5]; exact hy)] at ry
      simp only [HPX.out, HPY.out] at rx ry
      clear hl5
      go_quiet (fail)
      rcases Decidable.em (PX = PY) with he | he
      case' inl =>
        have k74 : ((PX : Int) == (PY : Int)) = true := by simp; omega
        have fz : W5.frozen? ⟨br, y, none⟩ = false := H5.out.free (.inr (.inr (.inl rfl))) Hvr.out y
        have He := hide he; clear he
        go_upto_region 8 with fail
        obtain ⟨W7, hW7⟩ : ∃ W7, (W5.drewN nq).setCell ⟨br, y, none⟩ (.int .i64 ((PY : Int) + 1)) = W7 := ⟨_, rfl⟩
        obtain ⟨R7, hR7⟩ : ∃ R7, S.ranks.set y (PY + 1) = R7 := ⟨_, rfl⟩
        have H7 : Hid (St W7 base L { S with forms := F5, ranks := R7 }) := hide (by rw [← hW7, ← hR7]; exact (H5.out.drewN nq).set_ranks Hvr.out y (PY + 1))
        have O7 : Hid (Only L.fq w W7) := hide (by rw [← hW7]; exact (O5.out.drewN nq).setCell (p := ⟨br, y, none⟩) (.inl (.inr (.inl (by rw [Hvr.out]; rfl)))) _)
        have S7 : Hid (W7.heap[w.heap.size + 1]? = some (.cells #[.int .i64 (x : Int), .int .i64 (y : Int), .int .i64 (FY : Int), .int .i64 (PY : Int)] 108 (0, 0))) := hide (by rw [← hW7]; exact (Below.heap_setCell (W5.drewN nq) ⟨br, y, none⟩ _ _ (by simp only; omega)).trans S5.out)
        have Q7 : Hid (W7.heap[w.heap.size]? = some (.cells #[.int .i64 0, .int .i64 0, .int .i64 0, .int .i64 0] 108 (0, 0))) := hide (by rw [← hW7]; exact (Below.heap_setCell (W5.drewN nq) ⟨br, y, none⟩ _ _ (by simp only; omega)).trans R5.out)
        have HR7 : Hid (R7 = if par S.ranks x = par S.ranks y then S.ranks.set y (par S.ranks y + 1) else S.ranks) := hide (by rw [HPX.out, HPY.out, if_pos He.out, hR7])
        simp only [hW7]
        clear hW7 hR7
        clear fz
      case' inr =>
        have k74 : ((PX : Int) == (PY : Int)) = false := by simp; omega
        have He := hide he; clear he
        go_upto_region 8 with fail
        obtain ⟨W7, hW7⟩ : ∃ W7, W5.drewN nq = W7 := ⟨_, rfl⟩
        obtain ⟨R7, hR7⟩ : ∃ R7, S.ranks = R7 := ⟨_, rfl⟩
        have H7 : Hid (St W7 base L { S with forms := F5, ranks := R7 }) := hide (by rw [← hW7, ← hR7]; exact H5.out.drewN _)
        have O7 : Hid (Only L.fq w W7) := hide (by rw [← hW7]; exact O5.out.drewN _)
        have S7 : Hid (W7.heap[w.heap.size + 1]? = some (.cells #[.int .i64 (x : Int), .int .i64 (y : Int), .int .i64 (FY : Int), .int .i64 (PY : Int)] 108 (0, 0))) := hide (by rw [← hW7]; exact S5.out)
        have Q7 : Hid (W7.heap[w.heap.size]? = some (.cells #[.int .i64 0, .int .i64 0, .int .i64 0, .int .i64 0] 108 (0, 0))) := hide (by rw [← hW7]; exact R5.out)
        have HR7 : Hid (R7 = if par S.ranks x = par S.ranks y then S.ranks.set y (par S.ranks y + 1) else S.ranks) := hide (by rw [HPX.out, HPY.out, if_neg He.out, hR7])
        simp only [hW7]
        clear hW7 hR7
      all_goals
        clear G1 G2 rx ry k74 H5 O5 S5 R5
        obtain ⟨-, G1, -, -⟩ := H7.out.gcell
        rw [Hva.out] at G1
        have hl7 := H7.out.la
        have ax := own_nat H7.out.above Hva.out x (by rw [hl7]; exact hx)
        have fz : W7.frozen? ⟨ba, x, none⟩ = false := H7.out.free (.inr (.inl rfl)) Hva.out x
        rw [par_at (by rw [hl7]; exact hx)] at ax
        clear hl7
        go_upto_region 9 with fail
        obtain ⟨W8, hW8⟩ : ∃ W8, W7.setCell ⟨ba, x, none⟩ (.int .i64 (y : Int)) = W8 := ⟨_, rfl⟩
        have H8 : Hid (St W8 base L { S with forms := F5, ranks := R7, above := S.above.set x y }) := hide (by rw [← hW8]; exact H7.out.set_above Hva.out x y)
        have O8 : Hid (Only L.fq w W8) := hide (by rw [← hW8]; exact O7.out.setCell (p := ⟨ba, x, none⟩) (.inl (.inl (by rw [Hva.out]; rfl))) _)
        have s8 : W8.heap[w.heap.size + 1]? = some (.cells #[.int .i64 (x : Int), .int .i64 (y : Int), .int .i64 (FY : Int), .int .i64 (PY : Int)] 108 (0, 0)) := by rw [← hW8]; exact (Below.heap_setCell W7 ⟨ba, x, none⟩ _ _ (by simp only; omega)).trans S7.out
        have q8 : W8.heap[w.heap.size]? = some (.cells #[.int .i64 0, .int .i64 0, .int .i64 0, .int .i64 0] 108 (0, 0)) := by rw [← hW8]; exact (Below.heap_setCell W7 ⟨ba, x, none⟩ _ _ (by simp only; omega)).trans Q7.out
        simp only [hW8]
        clear hW8 G1 ax fz
        have s0 : W8.cell? ⟨w.heap.size + 1, 0, none⟩ = some (.int .i64 (x : Int)) := by rw [cell_of_row _ _ _ _ _ _ s8]; rfl
        have s1 : W8.cell? ⟨w.heap.size + 1, 1, none⟩ = some (.int .i64 (y : Int)) := by rw [cell_of_row _ _ _ _ _ _ s8]; rfl
        have s2 : W8.cell? ⟨w.heap.size + 1, 2, none⟩ = some (.int .i64 (FY : Int)) := by rw [cell_of_row _ _ _ _ _ _ s8]; rfl
        have s3 : W8.cell? ⟨w.heap.size + 1, 3, none⟩ = some (.int .i64 (PY : Int)) := by rw [cell_of_row _ _ _ _ _ _ s8]; rfl
        have q0 : W8.cell? ⟨w.heap.size, 0, none⟩ = some (.int .i64 0) := by rw [cell_of_row _ _ _ _ _ _ q8]; rfl
        have q1 : W8.cell? ⟨w.heap.size, 1, none⟩ = some (.int .i64 0) := by rw [cell_of_row _ _ _ _ _ _ q8]; rfl
        have q2 : W8.cell? ⟨w.heap.size, 2, none⟩ = some (.int .i64 0) := by rw [cell_of_row _ _ _ _ _ _ q8]; rfl
        have q3 : W8.cell? ⟨w.heap.size, 3, none⟩ = some (.int .i64 0) := by rw [cell_of_row _ _ _ _ _ _ q8]; rfl
        have qf : ∀ k, W8.frozen? ⟨w.heap.size, k, none⟩ = false := fun k => by simp [World.frozen?, q8]
        have z0 := qf 0; have z1 := qf 1; have z2 := qf 2; have z3 := qf 3
        clear s8 q8 qf
        go_wp2
        obtain ⟨c0, c1, c2, c3⟩ := set4_cells W8 w.heap.size (.int .i64 (x : Int)) (.int .i64 (y : Int)) (.int .i64 (FY : Int)) (.int .i64 (PY : Int)) _ _ _ _ q0 q1 q2 q3
        have H9 : Hid (St (set4 W8 w.heap.size (.int .i64 (x : Int)) (.int .i64 (y : Int)) (.int .i64 (FY : Int)) (.int .i64 (PY : Int))) base L { S with forms := F5, ranks := R7, above := S.above.set x y }) :=
          hide (HH.out.far (HH.out.far (HH.out.far (HH.out.far H8.out _ 0 (Nat.le_refl _) _) _ 1 (Nat.le_refl _) _) _ 2 (Nat.le_refl _) _) _ 3 (Nat.le_refl _) _)
        have O9 : Hid (Only L.fq w (set4 W8 w.heap.size (.int .i64 (x : Int)) (.int .i64 (y : Int)) (.int .i64 (FY : Int)) (.int .i64 (PY : Int)))) :=
          hide ((((O8.out.setCell (p := ⟨w.heap.size, 0, none⟩) (.inr (Nat.le_refl _)) _).setCell (p := ⟨w.heap.size, 1, none⟩) (.inr (Nat.le_refl _)) _).setCell (p := ⟨w.heap.size, 2, none⟩) (.inr (Nat.le_refl _)) _).setCell (p := ⟨w.heap.size, 3, none⟩) (.inr (Nat.le_refl _)) _)
        have hst : { S with forms := F5, ranks := R7, above := S.above.set x y } = S.put x y (decide (p.kind = 1)) := by
          rw [HF5.out, HR7.out]; rfl
        rw [hst] at H9
        clear hst H8 O8 s0 s1 s2 s3 q0 q1 q2 q3 z0 z1 z2 z3
        change bodyPost Try.prog Try.f63 _ _ _ (set4 W8 w.heap.size (.int .i64 (x : Int)) (.int .i64 (y : Int)) (.int .i64 (FY : Int)) (.int .i64 (PY : Int)))
        generalize set4 W8 w.heap.size (.int .i64 (x : Int)) (.int .i64 (y : Int)) (.int .i64 (FY : Int)) (.int .i64 (PY : Int)) = W9 at *
        exact bodyPost_ret (v := .agg #[.int .i64 (x : Int), .int .i64 (y : Int), .int .i64 (FY : Int), .int .i64 (PY : Int)]) (by simp [results, Try.results63, go_sem, c0, c1, c2, c3]) rfl ⟨by rw [HFY.out, HPY.out], H9.out, O9.out⟩
end Go.Proofs.Ytafpbdmggnfdnaa
