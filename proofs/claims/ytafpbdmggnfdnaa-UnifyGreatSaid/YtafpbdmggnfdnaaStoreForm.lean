/- The program's store: form. -/
import Derived.Test.YtafpbdmggnfdnaaStoreMake
import Derived.Deep.RegionHeld3
namespace Go.Proofs.Ytafpbdmggnfdnaa
open Go.RowKit
set_option linter.unusedVariables false

theorem ndCells_at (N : List Nd) (ad : List (Option Addr × Nat)) (f : Nat) (p : Nd) (a : Option Addr × Nat) (hp : N[f]? = some p) (ha : ad[f]? = some a) :
    (ndCells N ad)[f * 3]? = some (.int .i64 p.kind) ∧ (ndCells N ad)[f * 3 + 1]? = some (.string p.name) ∧ (ndCells N ad)[f * 3 + 2]? = some (.slice a.1 p.args.length a.2) := by
  induction N generalizing ad f with
  | nil => simp at hp
  | cons q N ih =>
    rcases ad with _ | ⟨b, ad⟩
    · simp at ha
    · rcases f with _ | f
      · simp at hp ha; subst hp; subst ha; simp [ndCells, ndCell]
      · simp at hp ha
        obtain ⟨h1, h2, h3⟩ := ih ad f hp ha
        have e : ∀ j, (ndCells (q :: N) (b :: ad))[j + 3]? = (ndCells N ad)[j]? := by
          intro j; simp only [ndCells, List.zip_cons_cons, List.flatMap_cons, ndCell]; simp
        exact ⟨by rw [show (f + 1) * 3 = f * 3 + 3 by omega, e]; exact h1, by rw [show (f + 1) * 3 + 1 = f * 3 + 1 + 3 by omega, e]; exact h2, by rw [show (f + 1) * 3 + 2 = f * 3 + 2 + 3 by omega, e]; exact h3⟩
theorem St.node {w : World} {base : Nat} {L : Lay} {S : PS} (h : St w base L S) {f : Nat} (hf : f < S.nodes.length) {bn cn m : Nat} (hv : L.vn = .slice (some ⟨bn, 0, none⟩) m cn) :
    ∃ p a, S.nodes[f]? = some p ∧ L.ad[f]? = some a ∧ w.cell? ⟨bn, f * 3, none⟩ = some (.int .i64 p.kind) ∧ w.cell? ⟨bn, f * 3 + 1, none⟩ = some (.string p.name) ∧ w.cell? ⟨bn, f * 3 + 2, none⟩ = some (.slice a.1 p.args.length a.2) := by
  have hp : S.nodes[f]? = some S.nodes[f] := List.getElem?_eq_getElem hf
  have ha : L.ad[f]? = some (L.ad[f]'(by rw [h.ad]; exact hf)) := List.getElem?_eq_getElem _
  obtain ⟨h1, h2, h3⟩ := ndCells_at _ _ f _ _ hp ha
  have c : ∀ j u, (ndCells S.nodes L.ad)[j]? = some u → w.cell? ⟨bn, j, none⟩ = some u := by
    intro j u hu
    have := h.nodes.cells (g := bn) (by rw [hv]; rfl) j u hu
    rwa [addr_add', Nat.zero_add] at this
  exact ⟨_, _, hp, ha, c _ _ h1, c _ _ h2, c _ _ h3⟩

theorem nd_kind (a b c : Value) (w : World) : (Instr.field 73 (.agg #[a, b, c]) 0).run Try.prog w = .ok a w := by kernel_rfl
theorem nd_name (a b c : Value) (w : World) : (Instr.field 73 (.agg #[a, b, c]) 1).run Try.prog w = .ok b w := by kernel_rfl
theorem nd_args (a b c : Value) (w : World) : (Instr.field 73 (.agg #[a, b, c]) 2).run Try.prog w = .ok c w := by kernel_rfl
/-- What form returns: the node f. -/
def FormIs (w : World) (L : Lay) (p : Nd) (f : Nat) (e : Ending) (w' : World) : Prop :=
  ∃ a, L.ad[f]? = some a ∧ e = .returned (.agg #[.int .i64 p.kind, .string p.name, .slice a.1 p.args.length a.2]) ∧ Below w.heap.size w w'
set_option maxRecDepth 100000 in
set_option maxHeartbeats 2000000 in
theorem form_any {w : World} {base : Nat} {L : Lay} {S : PS} {c d : Nat → Nat} (h : St w base L S) (hf : Forest S.nodes.length (par S.above) c d) (i : Nat) (hi : i < S.nodes.length) (p : Nd) (hp : S.nodes[par S.forms (c i)]? = some p) :
    Calls Try.prog 38 #[.pointer (some ⟨L.g, 0, none⟩), .int .i64 (i : Int)] w (FormIs w L p (par S.forms (c i))) := by
  obtain ⟨bf, cf, hvf, hcf⟩ := own_pos h.forms (by omega)
  obtain ⟨bn, cn, hvn, hcn⟩ := own_pos h.nodes (by omega)
  have hg := h.gcell.2.2.2
  have hg0 := h.gcell.1
  have hm := h.many
  have hr := hf.top i hi
  have HF := hide (fun W (hW : St W base L S) => find_any hW hf i hi)
  obtain ⟨r, hrr⟩ : ∃ r, c i = r := ⟨_, rfl⟩
  rw [hrr] at hr HF hp ⊢
  have hrn := hr.1
  have hlf := h.lf
  have c1 := own_nat h.forms hvf r (by omega)
  rw [par_at (by omega)] at c1
  have hfn : par S.forms r < S.nodes.length := (List.getElem?_eq_some_iff.1 hp).1
  obtain ⟨f, hff⟩ : ∃ f, par S.forms r = f := ⟨_, rfl⟩
  rw [hff] at c1 hfn hp ⊢
  obtain ⟨p', a, hp', ha, n0, n1, n2⟩ := h.node hfn hvn
  obtain rfl : p = p' := by rw [hp] at hp'; injection hp'
  rw [hvf] at hg
  rw [hvn] at hg0
  have HH := hide h
  have HFp := hide hf
  have Ha := hide ha
  have gl := h.glt
  have nlt : bn < w.heap.size := (h.nodes.lt bn (by rw [hvn]; rfl)).2
  have flt : bf < w.heap.size := (h.forms.lt bf (by rw [hvf]; rfl)).2
  clear hr hrr hff hp hp' hvf hvn h hf ha hlf
  go_enter Try.func38, Try.ntmps38
  go_wp2
  go_region_held3 (fun w' => w'.cell? ⟨L.g, 0, none⟩ = some (.slice (some ⟨bn, 0, none⟩) S.nodes.length cn) ∧ w'.cell? ⟨L.g, 3, none⟩ = some (.slice (some ⟨bf, 0, none⟩) S.nodes.length cf) ∧ w'.cell? ⟨bf, r, none⟩ = some (.int .i64 (f : Int)) ∧ w'.cell? ⟨bn, f * 3, none⟩ = some (.int .i64 p.kind) ∧ w'.cell? ⟨bn, f * 3 + 1, none⟩ = some (.string p.name) ∧ w'.cell? ⟨bn, f * 3 + 2, none⟩ = some (.slice a.1 p.args.length a.2)) (go_keep)
    (first | (go_at_call 59; refine (HF.out _ (HH.out.later (by first | exact (Below.refl _ _).alloc (Nat.le_refl _) _ | exact ((Below.refl _ _).alloc (Nat.le_refl _) _).drew))).mono ?_; rintro e w' ⟨rfl, rfl⟩))
  go_wp2
  refine bodyPost_ret (v := .agg #[.int .i64 p.kind, .string p.name, .slice a.1 p.args.length a.2]) (by simp [results, Try.results38, go_sem]) rfl ⟨a, Ha.out, rfl, ((Below.refl _ _).alloc (Nat.le_refl _) _).drew⟩
end Go.Proofs.Ytafpbdmggnfdnaa
