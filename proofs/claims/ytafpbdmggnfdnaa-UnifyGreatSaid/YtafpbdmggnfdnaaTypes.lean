/- Types in memory: what a slice of api.Type reads as; SameType, SameTypes of the same. -/
import Derived.Test.YtafpbdmggnfdnaaStoreSize
namespace Go.Proofs.Ytafpbdmggnfdnaa
open Go.RowKit
set_option linter.unusedVariables false

/-- These cells, with what lies behind them in blocks of which P is true, are this forest. -/
def FoCells (w : World) (P : Nat → Prop) : Fo → List Value → Prop
  | .nil, cs => cs = []
  | .var n r, cs => ∃ A c rest, cs = .int .i64 1 :: .int .i64 (n : Int) :: .string ByteArray.empty :: .slice A 0 c :: rest ∧ FoCells w P r rest
  | .con k m a r, cs => ∃ A c rest, cs = .int .i64 k :: .int .i64 0 :: .string m :: .slice A a.len c :: rest ∧
      (a = .nil ∨ ∃ b off cs', A = some ⟨b, off, none⟩ ∧ P b ∧ FoCells w P a cs' ∧ ∀ (j : Nat) (u : Value), cs'[j]? = some u → w.cell? ⟨b, off + j, none⟩ = some u) ∧ FoCells w P r rest
/-- The slice with this address is this forest. -/
def FoAt (w : World) (P : Nat → Prop) (A : Option Addr) (F : Fo) : Prop :=
  F = .nil ∨ ∃ b off cs, A = some ⟨b, off, none⟩ ∧ P b ∧ FoCells w P F cs ∧ ∀ (j : Nat) (u : Value), cs[j]? = some u → w.cell? ⟨b, off + j, none⟩ = some u
section
variable {w w' : World} {P P' : Nat → Prop}
theorem FoCells.length (F : Fo) : ∀ {cs : List Value}, FoCells w P F cs → cs.length = F.len * 4 := by
  induction F with
  | nil => rintro cs rfl; rfl
  | var n r ih => rintro cs ⟨A, c, rest, rfl, h⟩; simp [Fo.len, ih h]; omega
  | con k m a r _ ih => rintro cs ⟨A, c, rest, rfl, _, h⟩; simp [Fo.len, ih h]; omega
theorem FoCells.one (F : Fo) : ∀ {cs : List Value}, FoCells w P F cs → ∀ u ∈ cs, u.oneCell' = true := by
  induction F with
  | nil => rintro cs rfl u hu; simp at hu
  | var n r ih =>
    rintro cs ⟨A, c, rest, rfl, h⟩ u hu
    simp only [List.mem_cons] at hu
    rcases hu with rfl | rfl | rfl | rfl | hu
    · rfl
    · rfl
    · rfl
    · rfl
    · exact ih h u hu
  | con k m a r _ ih =>
    rintro cs ⟨A, c, rest, rfl, _, h⟩ u hu
    simp only [List.mem_cons] at hu
    rcases hu with rfl | rfl | rfl | rfl | hu
    · rfl
    · rfl
    · rfl
    · rfl
    · exact ih h u hu
theorem FoCells.keep (F : Fo) : ∀ {cs : List Value}, FoCells w P F cs → (∀ b, P b → P' b) → (∀ p : Addr, P p.block → w'.cell? p = w.cell? p) → FoCells w' P' F cs := by
  induction F with
  | nil => intro cs h _ _; exact h
  | var n r ih => rintro cs ⟨A, c, rest, rfl, h⟩ hB hk; exact ⟨A, c, rest, rfl, ih h hB hk⟩
  | con k m a r iha ih =>
    rintro cs ⟨A, c, rest, rfl, ha, h⟩ hB hk
    refine ⟨A, c, rest, rfl, ?_, ih h hB hk⟩
    rcases ha with ha | ⟨b, off, cs', e, hb, hc, hcell⟩
    · exact .inl ha
    · exact .inr ⟨b, off, cs', e, hB b hb, iha hc hB hk, fun j u hu => (hk ⟨b, off + j, none⟩ hb).trans (hcell j u hu)⟩
theorem FoCells.app (F : Fo) {G : Fo} {ds : List Value} (hg : FoCells w P G ds) : ∀ {cs : List Value}, FoCells w P F cs → FoCells w P (F.app G) (cs ++ ds) := by
  induction F with
  | nil => rintro cs rfl; simpa [Fo.app] using hg
  | var n r ih => rintro cs ⟨A, c, rest, rfl, h⟩; exact ⟨A, c, rest ++ ds, rfl, ih h⟩
  | con k m a r _ ih => rintro cs ⟨A, c, rest, rfl, ha, h⟩; exact ⟨A, c, rest ++ ds, rfl, ha, ih h⟩
theorem FoAt.keep {A : Option Addr} {F : Fo} (h : FoAt w P A F) (hB : ∀ b, P b → P' b) (hk : ∀ p : Addr, P p.block → w'.cell? p = w.cell? p) : FoAt w' P' A F := by
  rcases h with h | ⟨b, off, cs, e, hb, hc, hcell⟩
  · exact .inl h
  · exact .inr ⟨b, off, cs, e, hB b hb, FoCells.keep F hc hB hk, fun j u hu => (hk ⟨b, off + j, none⟩ hb).trans (hcell j u hu)⟩
theorem fo_of_own {base : Nat} {e : TypeId} {v : Value} {F : Fo} {cs : List Value} (h : w.ownsRow base e 4 v F.len cs) (hc : FoCells w P F cs) (hP : ∀ b, v.ownBlock = some b → P b) : ∃ A c, v = .slice A F.len c ∧ FoAt w P A F := by
  rcases h.2 with ⟨hv, hn⟩ | ⟨g, cap, cur, hv, _, hh, _⟩
  · refine ⟨none, 0, by rw [hn]; exact hv, .inl ?_⟩
    cases F with
    | nil => rfl
    | var n r => simp [Fo.len] at hn
    | con k m a r => simp [Fo.len] at hn
  · refine ⟨_, cap, hv, .inr ⟨g, 0, cs, rfl, hP g (by rw [hv]; rfl), hc, fun j u hu => ?_⟩⟩
    have := h.cells (g := g) (by rw [hv]; rfl) j u hu
    rwa [addr_add'] at this
end
theorem tyInfo : (Try.prog.info? 48).map (fun i => (i.zero, i.size, i.bytes)) = some (some (.agg #[.int .i64 0, .int .i64 0, .string ByteArray.empty, .slice none 0 0]), 4, 56) := by kernel_rfl
end Go.Proofs.Ytafpbdmggnfdnaa
