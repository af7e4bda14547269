/- Part 8 of the proof of UnifyCopies: what follows was kept as these texts: Variables, MapOn, PlainVars. -/
import Derived.Test.YtafpbdmggnfdnaaUnifyCopiesPt1
import Derived.Test.YtafpbdmggnfdnaaUnifyCopiesPt2
import Derived.Test.YtafpbdmggnfdnaaUnifyCopiesPt3
import Derived.Test.YtafpbdmggnfdnaaUnifyCopiesPt4
import Derived.Test.YtafpbdmggnfdnaaUnifyCopiesPt5
import Derived.Test.YtafpbdmggnfdnaaUnifyCopiesPt6
import Derived.Test.YtafpbdmggnfdnaaUnifyCopiesPt7
import Derived.Sort.LoopGhostIn
import Derived.Maps.OwnIn
import Derived.OneCell
import Derived.Sort.QuietIn
import Derived.Sort.CutIn
/- The program's store: the iterator over the variables within nodes. -/
namespace Go.Proofs.Ytafpbdmggnfdnaa
open Go.RowKit Go.Shelf Go.Maps
set_option linter.unusedVariables false
attribute [local go_sem] Oper.semAt_some

theorem flat_split (ns : List Nat) (j : Nat) (h : j < ns.length) (tv : Nat → List Nat) : ns.flatMap tv = ((ns.take j).flatMap tv ++ tv ns[j]) ++ (ns.drop (j + 1)).flatMap tv := by
  calc ns.flatMap tv = (ns.take j ++ ns[j] :: ns.drop (j + 1)).flatMap tv := by rw [← List.drop_eq_getElem_cons h, List.take_append_drop]
    _ = _ := by rw [List.flatMap_append, List.flatMap_cons, List.append_assoc]
/-- The iterator's frame: what its loops write stands behind u. -/
def vAct (l bn bs Bm : Nat) (A : Option Addr) (len cap : Nat) (u : Nat → Value) (ds : List Deferred) : Act := { tmps := #[.func (.yield l) #[] #[], .pointer (some ⟨bn, 0, none⟩), .pointer (some ⟨bs, 0, none⟩), undef, .map (some Bm), undef, u 6, u 7, u 8, u 9, undef, u 11, .map (some Bm), .slice A len cap, .int .i64 (len : Int), u 15, u 16, u 17, u 18, u 19, u 20, u 21, u 22, u 23, u 24, u 25, u 26, u 27, u 28, u 29, u 30, u 31, u 32, u 33, u 34, u 35, u 36, u 37, u 38, u 39, u 40, u 41, u 42, u 43, u 44, u 45, u 46, u 47, u 48, u 49, u 50, u 51, u 52, u 53, u 54, u 55, u 56, u 57, u 58, u 59, u 60, u 61, u 62, u 63, u 64], defers := ds }
theorem frame_is {l bn bs Bm : Nat} {A : Option Addr} {len cap : Nat} (t : Array Value) (ds : List Deferred) (Ds : List Nat) (hd : ds = marks Ds) (ht : t = #[.func (.yield l) #[] #[], .pointer (some ⟨bn, 0, none⟩), .pointer (some ⟨bs, 0, none⟩), undef, .map (some Bm), undef, t.getD 6 undef, t.getD 7 undef, t.getD 8 undef, t.getD 9 undef, undef, t.getD 11 undef, .map (some Bm), .slice A len cap, .int .i64 (len : Int), t.getD 15 undef, t.getD 16 undef, t.getD 17 undef, t.getD 18 undef, t.getD 19 undef, t.getD 20 undef, t.getD 21 undef, t.getD 22 undef, t.getD 23 undef, t.getD 24 undef, t.getD 25 undef, t.getD 26 undef, t.getD 27 undef, t.getD 28 undef, t.getD 29 undef, t.getD 30 undef, t.getD 31 undef, t.getD 32 undef, t.getD 33 undef, t.getD 34 undef, t.getD 35 undef, t.getD 36 undef, t.getD 37 undef, t.getD 38 undef, t.getD 39 undef, t.getD 40 undef, t.getD 41 undef, t.getD 42 undef, t.getD 43 undef, t.getD 44 undef, t.getD 45 undef, t.getD 46 undef, t.getD 47 undef, t.getD 48 undef, t.getD 49 undef, t.getD 50 undef, t.getD 51 undef, t.getD 52 undef, t.getD 53 undef, t.getD 54 undef, t.getD 55 undef, t.getD 56 undef, t.getD 57 undef, t.getD 58 undef, t.getD 59 undef, t.getD 60 undef, t.getD 61 undef, t.getD 62 undef, t.getD 63 undef, t.getD 64 undef]) : (⟨t, ds⟩ : Act) = vAct l bn bs Bm A len cap (fun k => t.getD k undef) (marks Ds) := by
  rw [hd]
  unfold vAct
  congr 1
theorem loop_begin {l bn bs Bm : Nat} {A : Option Addr} {len cap : Nat} {Rel : (Nat → Value) → List Nat → Prop} (t : Array Value) (ds : List Deferred) (Ds : List Nat) (hd : ds = marks Ds) (ht : t = #[.func (.yield l) #[] #[], .pointer (some ⟨bn, 0, none⟩), .pointer (some ⟨bs, 0, none⟩), undef, .map (some Bm), undef, t.getD 6 undef, t.getD 7 undef, t.getD 8 undef, t.getD 9 undef, undef, t.getD 11 undef, .map (some Bm), .slice A len cap, .int .i64 (len : Int), t.getD 15 undef, t.getD 16 undef, t.getD 17 undef, t.getD 18 undef, t.getD 19 undef, t.getD 20 undef, t.getD 21 undef, t.getD 22 undef, t.getD 23 undef, t.getD 24 undef, t.getD 25 undef, t.getD 26 undef, t.getD 27 undef, t.getD 28 undef, t.getD 29 undef, t.getD 30 undef, t.getD 31 undef, t.getD 32 undef, t.getD 33 undef, t.getD 34 undef, t.getD 35 undef, t.getD 36 undef, t.getD 37 undef, t.getD 38 undef, t.getD 39 undef, t.getD 40 undef, t.getD 41 undef, t.getD 42 undef, t.getD 43 undef, t.getD 44 undef, t.getD 45 undef, t.getD 46 undef, t.getD 47 undef, t.getD 48 undef, t.getD 49 undef, t.getD 50 undef, t.getD 51 undef, t.getD 52 undef, t.getD 53 undef, t.getD 54 undef, t.getD 55 undef, t.getD 56 undef, t.getD 57 undef, t.getD 58 undef, t.getD 59 undef, t.getD 60 undef, t.getD 61 undef, t.getD 62 undef, t.getD 63 undef, t.getD 64 undef]) (hrel : Rel (fun k => t.getD k undef) Ds) :
    ∃ (u : Nat → Value) (Ds : List Nat), (⟨t, ds⟩ : Act) = vAct l bn bs Bm A len cap u (marks Ds) ∧ Rel u Ds := ⟨_, Ds, frame_is t ds Ds hd ht, hrel⟩
theorem loop_end {l bn bs Bm : Nat} {A : Option Addr} {len cap gk : Nat} {Rel : Nat → (Nat → Value) → List Nat → Prop} (t : Array Value) (ds : List Deferred) (Ds : List Nat) (n' : Nat) (hlt : n' < gk) (hd : ds = marks Ds) (ht : t = #[.func (.yield l) #[] #[], .pointer (some ⟨bn, 0, none⟩), .pointer (some ⟨bs, 0, none⟩), undef, .map (some Bm), undef, t.getD 6 undef, t.getD 7 undef, t.getD 8 undef, t.getD 9 undef, undef, t.getD 11 undef, .map (some Bm), .slice A len cap, .int .i64 (len : Int), t.getD 15 undef, t.getD 16 undef, t.getD 17 undef, t.getD 18 undef, t.getD 19 undef, t.getD 20 undef, t.getD 21 undef, t.getD 22 undef, t.getD 23 undef, t.getD 24 undef, t.getD 25 undef, t.getD 26 undef, t.getD 27 undef, t.getD 28 undef, t.getD 29 undef, t.getD 30 undef, t.getD 31 undef, t.getD 32 undef, t.getD 33 undef, t.getD 34 undef, t.getD 35 undef, t.getD 36 undef, t.getD 37 undef, t.getD 38 undef, t.getD 39 undef, t.getD 40 undef, t.getD 41 undef, t.getD 42 undef, t.getD 43 undef, t.getD 44 undef, t.getD 45 undef, t.getD 46 undef, t.getD 47 undef, t.getD 48 undef, t.getD 49 undef, t.getD 50 undef, t.getD 51 undef, t.getD 52 undef, t.getD 53 undef, t.getD 54 undef, t.getD 55 undef, t.getD 56 undef, t.getD 57 undef, t.getD 58 undef, t.getD 59 undef, t.getD 60 undef, t.getD 61 undef, t.getD 62 undef, t.getD 63 undef, t.getD 64 undef]) (hrel : Rel n' (fun k => t.getD k undef) Ds) :
    ∃ n', n' < gk ∧ ∃ (u : Nat → Value) (Ds : List Nat), (⟨t, ds⟩ : Act) = vAct l bn bs Bm A len cap u (marks Ds) ∧ Rel n' u Ds := ⟨n', hlt, _, Ds, frame_is t ds Ds hd ht, hrel⟩
/-- What the iterator has made between two rounds lies where rounds do not reach. -/
structure GRel (W : World) (Fp : Nat → Prop) (S : PS) (J : List Nat → (Nat → Prop) → World → Prop) (Bm : Nat) (seen : Nat → Nat) (acc : List Nat) (M : Nat → Prop) (Ds : List Nat) (wr : World) : Prop where
  map : ∃ e, MapIs wr Bm e seen ∧ e + zeros seen S.nodes.length ≤ S.nodes.length
  only : Only (fun b => Fp b ∨ W.heap.size ≤ b) W wr
  marked : Marked Ds wr
  mlow : ∀ D ∈ Ds, W.heap.size ≤ D ∧ ¬ M D
  blow : W.heap.size ≤ Bm ∧ ¬ M Bm
  J : J acc M wr
  mup : ∀ b, M b → W.heap.size ≤ b ∧ b < wr.heap.size

section
variable {W : World} {Fp : Nat → Prop} {S : PS} {c g : Nat → Nat} {tv : Nat → List Nat} {J : List Nat → (Nat → Prop) → World → Prop} {Bm bx : Nat} {v : Value} {seen : Nat → Nat} {acc stack Y : List Nat} {M F : Nat → Prop} {Ds : List Nat} {wr w' : World}
theorem GRel.keep (G : GRel W Fp S J Bm seen acc M Ds wr) (hJ : ∀ pre M W1 W2, J pre M W1 → Only (fun b => W.heap.size ≤ b ∧ ¬ M b) W1 W2 → J pre M W2) (ho : Only F wr w') (hF : ∀ b, F b → b < wr.heap.size → W.heap.size ≤ b ∧ ¬ M b ∧ b ≠ Bm ∧ b ∉ Ds) : GRel W Fp S J Bm seen acc M Ds w' := by
  obtain ⟨e, hm, he⟩ := G.map
  exact ⟨⟨e, hm.keep (ho.block _ hm.lt fun h => (hF _ h hm.lt).2.2.1 rfl), he⟩, G.only.then_ ho (fun b hb hl => .inr (hF b hb (Nat.lt_of_lt_of_le hl G.only.size)).1), G.marked.keep (fun D hD => ho.block D (G.marked.lt D hD) fun h => (hF _ h (G.marked.lt D hD)).2.2.2 hD), G.mlow, G.blow,
    hJ _ _ _ _ G.J (ho.mono fun b hl hb => ⟨(hF b hb hl).1, (hF b hb hl).2.1⟩), fun b hb => ⟨(G.mup b hb).1, Nat.lt_of_lt_of_le (G.mup b hb).2 ho.size⟩⟩
theorem vSt {base bn bs : Nat} {L : Lay} {A : Option Addr} {Z : Prop} (hst : St W base L S) (hFp : ∀ b, Fp b → b < W.heap.size ∧ ¬ L.fp b ∧ b ≠ bn ∧ b ≠ bs ∧ (Z → ∀ a, A = some a → a.block ≠ b) ∧ ∀ (i : Nat) (a : Option Addr × Nat), L.ad[i]? = some a → ∀ x, a.1 = some x → x.block ≠ b) (ho : Only (fun b => Fp b ∨ W.heap.size ≤ b) W wr) : St wr base L S := by
  refine hst.only ho (fun b hb hl => ?_) (fun i a ha x hx hf => ?_)
  · rcases hb with hb | hb
    · exact (hFp b hb).2.1
    · omega
  · rcases hf with hf | hf
    · exact (hFp _ hf).2.2.2.2.2 i a ha x hx rfl
    · have := hst.older.ad i a ha x hx; omega
/-- Within a node: the work's row, in a box. -/
structure IRel (W : World) (Fp : Nat → Prop) (S : PS) (J : List Nat → (Nat → Prop) → World → Prop) (Bm bx : Nat) (v : Value) (seen : Nat → Nat) (acc stack : List Nat) (M : Nat → Prop) (Ds : List Nat) (wr : World) : Prop where
  g : GRel W Fp S J Bm seen acc M Ds wr
  box : wr.heap[bx]? = some (.cells #[v] 30 (0, 0))
  own : wr.ownsRow W.heap.size 3 1 v stack.length (nats stack.reverse)
  bxlow : W.heap.size ≤ bx ∧ ¬ M bx
  ownlow : ∀ b, v.ownBlock = some b → ¬ M b
  few : stack.length + zeros seen S.nodes.length * 1000000 ≤ S.nodes.length * 1000000 + 1
theorem IRel.lt (R : IRel W Fp S J Bm bx v seen acc stack M Ds wr) : bx < wr.heap.size := (Array.getElem?_eq_some_iff.1 R.box).1
theorem MapIs.obj {w : World} {b n : Nat} {f : Nat → Nat} (h : MapIs w b n f) : ∃ es k, w.heap[b]? = some (.map es k) := by
  obtain ⟨D, ⟨es, clock, hb, _⟩, _⟩ := h
  exact ⟨_, _, hb⟩
theorem IRel.bx_ne (R : IRel W Fp S J Bm bx v seen acc stack M Ds wr) : bx ≠ Bm ∧ bx ∉ Ds ∧ v.ownBlock ≠ some bx := by
  refine ⟨?_, fun h => ?_, own_blk R.own R.box (by decide)⟩
  · rintro rfl
    obtain ⟨e, hm, -⟩ := R.g.map
    obtain ⟨es, k, h1⟩ := hm.obj
    rw [R.box] at h1; cases h1
  · have := R.g.marked.at_ _ h
    rw [R.box] at this; cases this
theorem IRel.row_ne (R : IRel W Fp S J Bm bx v seen acc stack M Ds wr) (b : Nat) (hb : v.ownBlock = some b) : b ≠ Bm ∧ b ∉ Ds ∧ b ≠ bx ∧ W.heap.size ≤ b := by
  refine ⟨?_, fun h => ?_, fun e => R.bx_ne.2.2 (e ▸ hb), (R.own.lt b hb).1⟩
  · rintro rfl
    obtain ⟨e, hm, -⟩ := R.g.map
    obtain ⟨es, k, h1⟩ := hm.obj
    rcases R.own.2 with ⟨rfl, _⟩ | ⟨g', cap, cur, rfl, _, hg', _⟩
    · cases hb
    · have : g' = b := by simpa [Value.ownBlock] using hb
      subst this; rw [hg'] at h1; cases h1
  · have h1 := R.g.marked.at_ _ h
    rcases R.own.2 with ⟨rfl, _⟩ | ⟨g', cap, cur, rfl, _, hg', _⟩
    · cases hb
    · have : g' = b := by simpa [Value.ownBlock] using hb
      subst this; rw [hg'] at h1; cases h1
theorem IRel.keep (R : IRel W Fp S J Bm bx v seen acc stack M Ds wr) (hJ : ∀ pre M W1 W2, J pre M W1 → Only (fun b => W.heap.size ≤ b ∧ ¬ M b) W1 W2 → J pre M W2) (ho : Only F wr w') (hF : ∀ b, F b → b < wr.heap.size → W.heap.size ≤ b ∧ ¬ M b ∧ b ≠ Bm ∧ b ∉ Ds ∧ b ≠ bx ∧ v.ownBlock ≠ some b) : IRel W Fp S J Bm bx v seen acc stack M Ds w' :=
  ⟨R.g.keep hJ ho fun b hb hl => ⟨(hF b hb hl).1, (hF b hb hl).2.1, (hF b hb hl).2.2.1, (hF b hb hl).2.2.2.1⟩, (ho.block _ R.lt fun h => (hF _ h R.lt).2.2.2.2.1 rfl).trans R.box,
    own_only R.own (ho.mono (G := fun b => b < wr.heap.size ∧ F b) fun b hl hb => ⟨hl, hb⟩) fun b hb hf => (hF b hf.2 hf.1).2.2.2.2.2 hb, R.bxlow, R.ownlow, R.few⟩
theorem IRel.later (R : IRel W Fp S J Bm bx v seen acc stack M Ds wr) (hJ : ∀ pre M W1 W2, J pre M W1 → Only (fun b => W.heap.size ≤ b ∧ ¬ M b) W1 W2 → J pre M W2) (hb : Below wr.heap.size wr w') : IRel W Fp S J Bm bx v seen acc stack M Ds w' :=
  R.keep hJ (Only.of_below hb (fun _ => False)) (fun _ h => h.elim)
/-- The box has another row. -/
theorem IRel.set {v' : Value} {stack' : List Nat} (R : IRel W Fp S J Bm bx v seen acc stack M Ds wr) (hJ : ∀ pre M W1 W2, J pre M W1 → Only (fun b => W.heap.size ≤ b ∧ ¬ M b) W1 W2 → J pre M W2) (hown : wr.ownsRow W.heap.size 3 1 v' stack'.length (nats stack'.reverse)) (hl : ∀ b, v'.ownBlock = some b → ¬ M b) (hfew : stack'.length + zeros seen S.nodes.length * 1000000 ≤ S.nodes.length * 1000000 + 1) :
    IRel W Fp S J Bm bx v' seen acc stack' M Ds (wr.setCell ⟨bx, 0, none⟩ v') := by
  have ho : Only (fun b => b = bx) wr (wr.setCell ⟨bx, 0, none⟩ v') := Only.setCell (F := fun b => b = bx) (Only.refl _ _) (p := ⟨bx, 0, none⟩) (.inl rfl) v'
  have hn := R.bx_ne
  have G' := R.g.keep hJ ho (by rintro b rfl _; exact ⟨R.bxlow.1, R.bxlow.2, hn.1, hn.2.1⟩)
  refine ⟨G', ?_, ?_, R.bxlow, hl, hfew⟩
  · exact one_setCell R.box
  · refine own_only hown ho fun b hb e => ?_
    subst e
    exact own_blk hown R.box (by decide) hb
/-- The row is written behind its end (or moved), then the box. -/
theorem IRel.push {v' : Value} {stack' : List Nat} {w9 : World} (R : IRel W Fp S J Bm bx v seen acc stack M Ds wr) (hJ : ∀ pre M W1 W2, J pre M W1 → Only (fun b => W.heap.size ≤ b ∧ ¬ M b) W1 W2 → J pre M W2) (ho : Only (fun b => v.ownBlock = some b) wr w9) (hown : w9.ownsRow W.heap.size 3 1 v' stack'.length (nats stack'.reverse)) (hl : ∀ b, v'.ownBlock = some b → ¬ M b) (hfew : stack'.length + zeros seen S.nodes.length * 1000000 ≤ S.nodes.length * 1000000 + 1) :
    IRel W Fp S J Bm bx v' seen acc stack' M Ds (w9.setCell ⟨bx, 0, none⟩ v') := by
  have G9 := R.g.keep hJ ho (fun b hb _ => ⟨(R.row_ne b hb).2.2.2, R.ownlow b hb, (R.row_ne b hb).1, (R.row_ne b hb).2.1⟩)
  have box9 : w9.heap[bx]? = _ := (ho.block _ R.lt R.bx_ne.2.2).trans R.box
  have ho2 : Only (fun b => b = bx) w9 (w9.setCell ⟨bx, 0, none⟩ v') := Only.setCell (F := fun b => b = bx) (Only.refl _ _) (p := ⟨bx, 0, none⟩) (.inl rfl) v'
  have hn := R.bx_ne
  have G' := G9.keep hJ ho2 (by rintro b rfl _; exact ⟨R.bxlow.1, R.bxlow.2, hn.1, hn.2.1⟩)
  refine ⟨G', one_setCell box9, ?_, R.bxlow, hl, hfew⟩
  refine own_only hown ho2 fun b hb e => ?_
  subst e
  exact own_blk hown box9 (by decide) hb
/-- A mark more. -/
theorem IRel.mark {D : Nat} (R : IRel W Fp S J Bm bx v seen acc stack M Ds wr) (hD : wr.heap[D]? = some (.deferred (some []))) (hW : W.heap.size ≤ D) (hM : ¬ M D) (hn : D ∉ Ds) : IRel W Fp S J Bm bx v seen acc stack M (D :: Ds) wr := by
  refine ⟨⟨R.g.map, R.g.only, R.g.marked.cons hD hn, fun E hE => ?_, R.g.blow, R.g.J, R.g.mup⟩, R.box, R.own, R.bxlow, R.ownlow, R.few⟩
  rcases List.mem_cons.1 hE with rfl | hE
  · exact ⟨hW, hM⟩
  · exact R.g.mlow E hE
/-- A root more is seen. -/
theorem IRel.see {e r : Nat} (R : IRel W Fp S J Bm bx v seen acc stack M Ds wr) (hJ : ∀ pre M W1 W2, J pre M W1 → Only (fun b => W.heap.size ≤ b ∧ ¬ M b) W1 W2 → J pre M W2) (hm : MapIs w' Bm (e + 1) (updN seen r 1)) (hg : wr.grownBy w' (some Bm)) (he : e + 1 + zeros (updN seen r 1) S.nodes.length ≤ S.nodes.length) (hfew : zeros (updN seen r 1) S.nodes.length ≤ zeros seen S.nodes.length) :
    IRel W Fp S J Bm bx v (updN seen r 1) acc stack M Ds w' := by
  have ho : Only (fun b => b = Bm) wr w' := (only_of_grown hg).mono fun b _ e => by injection e with e; exact e.symm
  have hn := R.bx_ne
  refine ⟨⟨⟨e + 1, hm, he⟩, R.g.only.then_ ho (by rintro b rfl _; exact .inr R.g.blow.1), R.g.marked.keep (fun D hD => ho.block D (R.g.marked.lt D hD) ?_), R.g.mlow, R.g.blow, hJ _ _ _ _ R.g.J (ho.mono (by rintro b _ rfl; exact R.g.blow)), fun b hb => ⟨(R.g.mup b hb).1, Nat.lt_of_lt_of_le (R.g.mup b hb).2 ho.size⟩⟩, (ho.block _ R.lt hn.1).trans R.box, own_only R.own ho fun b hb => (R.row_ne b hb).1, R.bxlow, R.ownlow, Nat.le_trans (Nat.add_le_add_left (Nat.mul_le_mul_right _ hfew) _) R.few⟩
  rintro rfl
  obtain ⟨e, hm, -⟩ := R.g.map
  obtain ⟨es, k, h1⟩ := hm.obj
  have := R.g.marked.at_ _ hD
  rw [this] at h1; cases h1
end
set_option maxRecDepth 100000 in
set_option maxHeartbeats 4000000 in
theorem variables1_in {base : Nat} {L : Lay} {S : PS} {c d : Nat → Nat} (hi : Ok S c d) (n : Nat) (hn : 3 ≤ n) (l bn bs : Nat) (Fp : Nat → Prop) (A : Option Addr) (cap : Nat) (ns : List Nat) (hns : ∀ x ∈ ns, x < S.nodes.length) (hlen : ns.length ≤ 1000000)
    (g : Nat → Nat) (tv : Nat → List Nat) (V : VarsOf S.nodes.length c (fun r => match S.nodes[par S.forms r]? with | some p => if p.kind = 1 then none else some p.args | none => none) g tv)
    (J : List Nat → (Nat → Prop) → World → Prop) (Jx : (Nat → Prop) → World → Prop) (W : World) (hst : St W base L S) (hFp : ∀ b, Fp b → b < W.heap.size ∧ ¬ L.fp b ∧ b ≠ bn ∧ b ≠ bs ∧ (ns ≠ [] → ∀ a, A = some a → a.block ≠ b) ∧ ∀ (i : Nat) (a : Option Addr × Nat), L.ad[i]? = some a → ∀ x, a.1 = some x → x.block ≠ b)
    (hJ : ∀ pre M W1 W2, J pre M W1 → Only (fun b => W.heap.size ≤ b ∧ ¬ M b) W1 W2 → J pre M W2)
    (hJx : ∀ M W1 W2, Jx M W1 → Only (fun b => W.heap.size ≤ b ∧ ¬ M b) W1 W2 → Jx M W2)
    (hY : ∀ (pre : List Nat) (x : Nat) (M : Nat → Prop) (W1 : World), J pre M W1 → pre ++ [x] <+: addNew [] (ns.flatMap tv) → YieldAt Fence.wide (n - 1) Try.prog l #[.int .i64 (x : Int)] W1 fun e W' =>
      (e = .returned (.bool true) ∧ (∃ M', J (pre ++ [x]) M' W' ∧ ∀ b, M' b → M b ∨ (W1.heap.size ≤ b ∧ b < W'.heap.size)) ∧ Only (fun b => Fp b ∨ M b) W1 W') ∨ (e = .returned (.bool false) ∧ (∃ M', Jx M' W' ∧ ∀ b, M' b → M b ∨ (W1.heap.size ≤ b ∧ b < W'.heap.size)) ∧ Only (fun b => b < W.heap.size ∨ M b) W1 W'))
    (hB : W.cell? ⟨bn, 0, none⟩ = some (.slice A ns.length cap)) (hS : W.cell? ⟨bs, 0, none⟩ = some (.pointer (some ⟨L.g, 0, none⟩))) (hc : Nats W A ns) (h0 : J [] (fun _ => False) W) :
    CallsIn Fence.wide n Try.prog 61 #[.func (.yield l) #[] #[], .pointer (some ⟨bn, 0, none⟩), .pointer (some ⟨bs, 0, none⟩)] W fun e W' => (∃ v, e = .returned v) ∧ ((∃ M, J (addNew [] (ns.flatMap tv)) M W') ∨ ∃ M, Jx M W') := by
  have hmm := @run_makeMap Try.prog
  obtain ⟨i1, ki, kz0, kz1, kz2⟩ := info_parts intInfo
  have Ki := hide ki; have Kz0 := hide kz0; have Kz1 := hide kz1; have Kz2 := hide kz2
  clear ki kz0 kz1 kz2
  have hbn : bn < W.heap.size := World.block_lt_of_cell? W _ hB
  have hbs : bs < W.heap.size := World.block_lt_of_cell? W _ hS
  refine callsIn_of_wp_marks Try.func61 rfl trivial ?_ rfl
  simp only [Try.ntmps61, List.size_toArray, List.length_cons, List.length_nil, Nat.reduceAdd, Nat.reduceSub, Array.replicate_succ, Array.replicate_zero, List.push_toArray, List.append_toArray, List.nil_append, List.cons_append]
  gi_wp2
  have hM0 := MapIs.new W
  have hb0 : Below W.heap.size W (W.alloc (.map #[] 0)) := (Below.refl _ _).alloc (Nat.le_refl _) _
  have G0 : GRel W Fp S J W.heap.size (fun _ => 0) [] (fun _ => False) [] (W.alloc (.map #[] 0)) :=
    ⟨⟨0, hM0, by rw [zeros_all]; omega⟩, Only.of_below' hb0, ⟨List.nodup_nil, by simp⟩, by simp, ⟨Nat.le_refl _, fun h => h⟩, hJ _ _ _ _ h0 (Only.of_below' hb0), fun _ h => h.elim⟩
  have HG0 := hide G0
  have HhJ := hide hJ; have HhJx := hide hJx; have HhY := hide hY; have HV := hide V; have Hst := hide hst; have HFp := hide hFp; have Hi := hide hi; have Hc := hide hc; have Hns := hide hns
  have hm := hst.many
  clear G0 hM0 hb0 hJ hJx hY V hst hFp hi hc hns h0 hmm
  refine wpIn_loop_ghost (fun gk a' wr => ∃ (u : Nat → Value) (Ds : List Nat), a' = vAct l bn bs W.heap.size A ns.length cap u (marks Ds) ∧ ∃ (j : Nat) (seen : Nat → Nat) (acc : List Nat) (M : Nat → Prop), gk = ns.length - j ∧ j ≤ ns.length ∧ u 15 = .int .i64 (j : Int) ∧ acc = addNew [] ((ns.take j).flatMap tv) ∧ VInv S.nodes.length c g tv seen acc [] acc ∧ GRel W Fp S J W.heap.size seen acc M Ds wr) ns.length ?_ ?_
  · refine ⟨fun k => if k = 15 then .int .i64 0 else undef, [], rfl, 0, fun _ => 0, [], fun _ => False, rfl, by omega, rfl, rfl, VInv.start, HG0.out⟩
  · rintro gk a' wr ⟨u, Ds, rfl, j, seen, acc, M, rfl, hj, hu15, hacc, hV, G⟩
    unfold vAct
    have Hacc := hide hacc; have HG := hide G; have HI := hide hV
    clear hacc G HG0 hV
    by_cases hlt : j < ns.length
    · have hcn : ¬ Fp bn := fun h => (HFp.out _ h).2.2.1 rfl
      have cB : wr.cell? ⟨bn, 0, none⟩ = some (.slice A ns.length cap) := (HG.out.only.cell (p := ⟨bn, 0, none⟩) hbn (by rintro (h1 | h1); exact hcn h1; simp only at h1 hbn; omega)).trans hB
      obtain ⟨b, off, rfl, hb, d0⟩ := Hc.out.at_ j (by simp [cast]; omega)
      simp only [cast, List.getElem_map] at d0
      have hnb : ¬ (Fp b ∨ W.heap.size ≤ b) := by
        rintro (h1 | h1)
        · exact (HFp.out _ h1).2.2.2.2.1 (by rintro rfl; simp at hlt) _ rfl rfl
        · omega
      have e0 := (HG.out.only.cell (p := ⟨b, off + j, none⟩) hb hnb).trans d0
      obtain ⟨x, hx⟩ : ∃ x, ns[j] = x := ⟨_, rfl⟩
      rw [hx] at e0
      have Hx := hide hx
      clear d0 hx
      gi_wp2
      have hbelow : Below wr.heap.size wr ((wr.alloc (Obj.cells #[.int .i64 (x : Int)] 3)).alloc (Obj.cells #[.slice (some ⟨wr.heap.size, 0, none⟩) 1 1] 30)) := ((Below.refl _ _).alloc (Nat.le_refl _) _).alloc (by simp) _
      have hxn : x < S.nodes.length := by rw [← Hx.out]; exact Hns.out _ (List.getElem_mem _)
      have hW2 : W.heap.size ≤ wr.heap.size := HG.out.only.size
      have IR0 : IRel W Fp S J W.heap.size (wr.heap.size + 1) (.slice (some ⟨wr.heap.size, 0, none⟩) 1 1) seen acc [x] M Ds ((wr.alloc (Obj.cells #[.int .i64 (x : Int)] 3)).alloc (Obj.cells #[.slice (some ⟨wr.heap.size, 0, none⟩) 1 1] 30)) := by
        have G' := HG.out.keep (w' := ((wr.alloc (Obj.cells #[.int .i64 (x : Int)] 3)).alloc (Obj.cells #[.slice (some ⟨wr.heap.size, 0, none⟩) 1 1] 30))) HhJ.out (Only.of_below hbelow (fun _ => False)) (fun _ h => h.elim)
        refine ⟨G', ?_, ?_, ⟨by omega, fun h => by have := (HG.out.mup _ h).2; omega⟩, fun b hb h => ?_, ?_⟩
        · have := heap_alloc_new (wr.alloc (Obj.cells #[.int .i64 (x : Int)] 3)) (Obj.cells #[.slice (some ⟨wr.heap.size, 0, none⟩) 1 1] 30)
          rwa [World.size_alloc] at this
        · exact (World.ownsRow_lit wr #[.int .i64 (x : Int)] 1 hW2 (by simp [maxLen]) rfl).alloc _
        · have hb' : wr.heap.size = b := by simpa [Value.ownBlock] using hb
          have := (HG.out.mup _ h).2; omega
        · obtain ⟨e, -, he⟩ := HG.out.map
          simp only [List.length_singleton]; omega
      obtain ⟨Y0, hY0⟩ : ∃ Y0, addNew acc (tv x) = Y0 := ⟨_, rfl⟩
      have HI0 : Hid (VInv S.nodes.length c g tv seen acc [x] Y0) := hide (by rw [← hY0]; exact HI.out.next hxn)
      have HY0 := hide hY0
      clear hY0
      obtain ⟨bx, hbx⟩ : ∃ bx, wr.heap.size + 1 = bx := ⟨_, rfl⟩
      obtain ⟨W2, hW2⟩ : ∃ W2, ((wr.alloc (Obj.cells #[.int .i64 (x : Int)] 3)).alloc (Obj.cells #[.slice (some ⟨wr.heap.size, 0, none⟩) 1 1] 30)) = W2 := ⟨_, rfl⟩
      rw [hbx, hW2] at IR0
      simp only [hbx, hW2]
      have HR0 := hide IR0
      clear hbelow IR0 hbx hW2
      refine wpIn_loop_ghost (fun gk a' w' => ∃ (u' : Nat → Value) (Ds' : List Nat), a' = vAct l bn bs W.heap.size (some ⟨b, off, none⟩) ns.length cap u' (marks Ds') ∧ ∃ (seen : Nat → Nat) (acc stack : List Nat) (M : Nat → Prop) (v : Value), gk = zeros seen S.nodes.length * 1000002 + stack.length ∧ u' 7 = .pointer (some ⟨bx, 0, none⟩) ∧ u' 15 = .int .i64 (j : Int) ∧ VInv S.nodes.length c g tv seen acc stack Y0 ∧ IRel W Fp S J W.heap.size bx v seen acc stack M Ds' w') (zeros seen S.nodes.length * 1000002 + 1) ?_ ?_
      · exact loop_begin _ _ Ds rfl rfl ⟨seen, acc, [x], M, _, rfl, rfl, rfl, HI0.out, HR0.out⟩
      · rintro gk a' w' ⟨u', Ds', rfl, seen', acc', stack, M', v, rfl, hu7, hu15', hI1, R⟩
        unfold vAct
        clear HR0 HI0
        have HI1 := hide hI1; clear hI1
        rcases stack with _ | ⟨y, rest⟩
        · obtain ⟨A', cap', rfl, -, -⟩ := own_len R.own
          have cb : w'.cell? ⟨bx, 0, none⟩ = some (.slice A' 0 cap') := by rw [cell_of_row _ _ _ _ _ _ R.box]; rfl
          have HR := hide R; clear R
          gi_wp2
          have hacc : acc' = addNew [] ((ns.take (j + 1)).flatMap tv) := by
            rw [List.take_add_one, List.getElem?_eq_getElem hlt, Hx.out, List.flatMap_append, addNew_append, ← Hacc.out, ← HI1.out.done, ← HY0.out]
            simp
          refine loop_end _ _ Ds' (ns.length - (j + 1)) (by omega) rfl rfl ⟨j + 1, seen', acc', M', rfl, by omega, rfl, hacc, ?_, HR.out.g⟩
          have hI := HI1.out
          have hd := hI.done
          subst hd
          exact hI
        · have hown := R.own
          obtain ⟨gw, capw, rfl, hcapw⟩ := own_pos hown (by simp)
          have hyn : y < S.nodes.length := HI1.out.lt y List.mem_cons_self
          have cb : w'.cell? ⟨bx, 0, none⟩ = some (.slice (some ⟨gw, 0, none⟩) (rest.length + 1) capw) := by rw [cell_of_row _ _ _ _ _ _ R.box]; rfl
          have ct : w'.cell? ⟨gw, rest.length, none⟩ = some (.int .i64 (y : Int)) := by
            have := own_nat hown rfl rest.length (by simp)
            simpa using this
          have cs : w'.cell? ⟨bs, 0, none⟩ = some (.pointer (some ⟨L.g, 0, none⟩)) := (R.g.only.cell (p := ⟨bs, 0, none⟩) hbs (by
            rintro (h1 | h1)
            · exact (HFp.out _ h1).2.2.2.1 rfl
            · simp only at h1 hbs; omega)).trans hS
          have Hst' := hide (vSt Hst.out HFp.out R.g.only)
          have hpop := hide (own_pop hown)
          rw [List.reverse_cons, nats_snoc, Nat.mul_one, List.take_left' (by simp [nats_length])] at hpop
          have HF := hide (fun (i : Nat) (hi : i < S.nodes.length) (nq : Nat) => find_any (Hst'.out.drewN nq) Hi.out.inv.forest i hi)
          have HR := hide R
          have hbxl : bx < w'.heap.size := R.lt
          simp only [List.length_cons] at hcapw ⊢
          clear R hown hS
          have Hfew := hide HR.out.few
          have hrl : rest.length ≤ 1000000000000 := by
            have := HR.out.few
            simp only [List.length_cons] at this
            omega
          gi_upto_region 6 with fail
          refine wpIn_wide.2 ?_
          go_quiet ((go_at_call 59; exact quiet_of_left (HF.out _ (by omega) _)))
          have hbq : Below w'.heap.size w' (w'.drewN nq) := below_drewN (Below.refl _ _) _
          have Rq := HR.out.later HhJ.out hbq
          obtain ⟨Wq, hWq⟩ : ∃ Wq, w'.drewN nq = Wq := ⟨_, rfl⟩
          obtain ⟨r, hr⟩ : ∃ r, c y = r := ⟨_, rfl⟩
          have cbq := (hbq.cell (p := ⟨bx, 0, none⟩) hbxl).trans cb
          have csq := (hbq.cell (p := ⟨bs, 0, none⟩) (World.block_lt_of_cell? w' _ cs)).trans cs
          have opq := own_keep hpop.out (fun b hb => hbq.block b (hpop.out.lt b hb).2)
          have hrr := Hi.out.roots y hyn
          rw [hWq] at Rq cbq csq opq
          rw [hr] at hrr
          simp only [hWq, hr]
          have HRq := hide Rq; have Hr := hide hr; have Hopq := hide opq; have Hrr := hide hrr
          have hrn := hrr.1
          have hfz : Wq.frozen? ⟨bx, 0, none⟩ = false := by simp [World.frozen?, HRq.out.box]
          clear Rq hr opq hrr hpop hbq cb cs ct HF Hst' hWq
          have hsl2 := fun W => run_slice_h (P := Try.prog) W 30 (some ⟨gw, 0, none⟩) (rest.length + 1) capw Try.underlying30 .i64 ((rest.length : Int)) (by omega) (by omega)
          gi_upto_region 8 with fail
          have R3 := HRq.out.set (v' := .slice (some ⟨gw, 0, none⟩) rest.length capw) (stack' := rest) HhJ.out Hopq.out (fun b hb => HRq.out.ownlow b hb) (by have := HRq.out.few; simp only [List.length_cons] at this; omega)
          obtain ⟨W3, hW3⟩ : ∃ W3, Wq.setCell ⟨bx, 0, none⟩ (.slice (some ⟨gw, 0, none⟩) rest.length capw) = W3 := ⟨_, rfl⟩
          have cs3 : W3.cell? ⟨bs, 0, none⟩ = some (.pointer (some ⟨L.g, 0, none⟩)) := by
            rw [← hW3]
            refine (World.cell?_of_block (w := Wq) (Below.heap_setCell Wq ⟨bx, 0, none⟩ _ _ ?_)).trans csq
            have := HRq.out.bxlow.1
            simp only; omega
          rw [hW3] at R3
          simp only [hW3]
          have HR3 := hide R3
          obtain ⟨e, hmap, he⟩ := R3.g.map
          have Hmap := hide hmap
          clear R3 hW3 HRq Hopq csq cbq hfz hsl2 hmap HR
          by_cases hs : seen' r = 0
          · have k40 : ¬ ((0 : Int) < (seen' r : Int)) := by omega
            have Hs := hide hs; clear hs
            have hze := hide (zeros_set seen' r 1 S.nodes.length hrn Hs.out (by decide))
            gi_upto_region 10 with (first | (gi_at_lookup; refine wpListIn_map_get rfl (.tmp 37) (.tmp 38) rfl W.heap.size e seen' rfl Hmap.out r rfl (by omega) ?_) | (gi_at_mapUpdate; refine wpListIn_map_set rfl (.tmp 41) (.tmp 42) (.const (.int .i64 1)) rfl W.heap.size e seen' rfl Hmap.out (by omega) r 1 rfl rfl (by omega) (by decide) ?_; intro W4 M4 hg4))
            have R4 := HR3.out.see (r := r) HhJ.out M4 hg4 (by have := hze.out; omega) (by have := hze.out; omega)
            have St4 := vSt Hst.out HFp.out R4.g.only
            have hFr := Hi.out.forms y hyn
            rw [Hr.out] at hFr
            obtain ⟨P, hP⟩ : ∃ P, S.nodes[par S.forms r]? = some P := ⟨_, List.getElem?_eq_getElem hFr.lt⟩
            have hPl := St4.few _ _ hP
            have HFm := form_any St4 Hi.out.inv.forest r hrn P (by rw [Hrr.out.2]; exact hP)
            rw [Hrr.out.2] at HFm
            have cs4 : W4.cell? ⟨bs, 0, none⟩ = some (.pointer (some ⟨L.g, 0, none⟩)) := by
              refine (World.cell?_of_block (w := W3) (hg4.block bs (World.block_lt_of_cell? W3 _ cs3) ?_)).trans cs3
              intro e1; injection e1 with e1; omega
            have HFmI := hide (callsIn_wide (n := n - 1).2 HFm)
            have HR4 := hide R4; have HP := hide hP
            clear R4 St4 hFr HFm hg4 M4 cs3 hP HR3 Hmap
            gi_wp2_with fail
            refine ⟨trivial, fun _ => by omega, HFmI.out.mono ?_⟩
            rintro e' W5 ⟨ax, hax, rfl, hb5⟩
            gi_upto_region 11 with fail
            have R5 := HR4.out.later HhJ.out hb5
            have hb6 : Below W5.heap.size W5 (W5.alloc (Obj.cells #[.int .i64 P.kind, .string P.name, .slice ax.fst P.args.length ax.snd] 73)) := (Below.refl _ _).alloc (Nat.le_refl _) _
            have R6 := R5.later HhJ.out hb6
            have B6 := heap_alloc_new W5 (Obj.cells #[.int .i64 P.kind, .string P.name, .slice ax.fst P.args.length ax.snd] 73)
            obtain ⟨B9, hB9⟩ : ∃ B9, W5.heap.size = B9 := ⟨_, rfl⟩
            obtain ⟨W6, hW6⟩ : ∃ W6, W5.alloc (Obj.cells #[.int .i64 P.kind, .string P.name, .slice ax.fst P.args.length ax.snd] 73) = W6 := ⟨_, rfl⟩
            have hB9W : W.heap.size ≤ B9 := by rw [← hB9]; exact R5.g.only.size
            have hB9M : ¬ M' B9 := by rw [← hB9]; intro h; have := (R5.g.mup _ h).2; omega
            rw [hB9, hW6] at B6
            rw [hW6] at R6
            simp only [hB9, hW6]
            have Hax := hide hax; have HR6 := hide R6; have HB6 := hide B6
            clear R5 hb6 R6 B6 hW6 hB9 hb5 HR4 HFmI cs4 hax
            rename_i K2 hK2 K1 hK1
            have hcut : ∀ (a : Act) (w7 : World), (∃ (u : Nat → Value) (Ds : List Nat), a = vAct l bn bs W.heap.size (some ⟨b, off, none⟩) ns.length cap u (marks Ds) ∧ ∃ (acc7 : List Nat) (M7 : Nat → Prop), u 7 = .pointer (some ⟨bx, 0, none⟩) ∧ u 9 = .pointer (some ⟨B9, 0, none⟩) ∧ u 15 = .int .i64 (j : Int) ∧ VInv S.nodes.length c g tv (updN seen' r 1) acc7 (P.args ++ rest) Y0 ∧ IRel W Fp S J W.heap.size bx (.slice (some ⟨gw, 0, none⟩) rest.length capw) (updN seen' r 1) acc7 rest M7 Ds w7 ∧ w7.heap[B9]? = some (.cells #[.int .i64 P.kind, .string P.name, .slice ax.fst P.args.length ax.snd] 73 (0, 0))) → K2 a w7 := by
              rintro a w7 ⟨u7, Ds7, rfl, acc7, M7, h77, h79, h715, hI7, R7, hB7⟩
              apply hK2
              clear hK2 hK1 HR6 HB6
              unfold vAct
              have k2 : w7.cell? ⟨B9, 2, none⟩ = some (.slice ax.fst P.args.length ax.snd) := by rw [cell_of_row _ _ _ _ _ _ hB7]; rfl
              have St7 := vSt Hst.out HFp.out R7.g.only
              have hN7 := (St7.args _ P ax HP.out Hax.out).1
              have hA7 := (St7.args _ P ax HP.out Hax.out).2
              have HR7 := hide R7; have HI7 := hide hI7
              obtain ⟨ax1, ax2⟩ := ax
              simp only at k2 hN7 hA7 ⊢
              clear St7 R7 hI7
              gi_wp2_with fail
              refine ⟨trivial, fun _ => by omega, (backInts_call Fence.wide _ trivial rfl _ _ _ _).mono ?_⟩
              rintro e' W8 ⟨rfl, rfl⟩
              gi_wp2_with fail
              obtain ⟨W8, hW8⟩ : ∃ W8, w7.alloc (Obj.cells #[.slice ax1 P.args.length ax2] 30) = W8 := ⟨_, rfl⟩
              have hb8 : Below w7.heap.size w7 W8 := by rw [← hW8]; exact (Below.refl _ _).alloc (Nat.le_refl _) _
              have hz8 : W8.heap.size = w7.heap.size + 1 := by rw [← hW8]; simp
              have cx8 : W8.cell? ⟨w7.heap.size, 0, none⟩ = some (.slice ax1 P.args.length ax2) := by rw [← hW8, cell_of_row _ _ _ _ _ _ (heap_alloc_new w7 _)]; rfl
              have hN8 : Nats W8 ax1 P.args := Ints.below hN7 hb8
              have hR8 := HR7.out.later HhJ.out hb8
              have hgl := HR7.out.own.lt gw rfl
              have hbx7 := HR7.out.lt
              have hAo : ∀ a, ax1 = some a → a.block < W.heap.size := fun a ha => Hst.out.older.ad _ _ Hax.out a ha
              have hbxW := hR8.bxlow.1
              have hbx8 := hR8.lt
              have HR8 := hide hR8
              simp only [hW8]
              clear hW8 hb8 hR8 HR7 hN7 hA7 k2
              refine wpZ_rangeFunc (gf := 67) (lb := #[.pointer (some ⟨w7.heap.size, 0, none⟩)]) (by omega) rfl (enters_of Try.func67 (by kernel_rfl) rfl)
                (Fp := fun b1 => b1 = bx ∨ b1 = gw) (backInts_seq (n - 1) (by omega) w7.heap.size _ ax1 ax2 P.args hPl W8 cx8 (by rintro (h | h); omega; omega) hN8 (fun a ha => by have := hAo a ha; rintro (h | h); omega; omega)) (fun _ => rfl) (by rintro b1 (rfl | rfl); exact hbx8; omega)
                (fun pre Mz Wx => ∃ v, IRel W Fp S J W.heap.size bx v (updN seen' r 1) acc7 ((pre.map Prod.fst).reverse ++ rest) M7 Ds7 Wx ∧ ∀ b1, v.ownBlock = some b1 → b1 = gw ∨ Mz b1) (fun _ _ _ => False) ?hI (fun _ _ _ _ h => h.elim) ⟨_, HR8.out, fun b1 hb1 => .inl (by simpa [Value.ownBlock] using hb1.symm)⟩ ?a1 ?assign ?body ?done (fun _ _ _ _ _ h => h.elim)
              case hI =>
                rintro pre Mz Wa Wb ⟨v, R, hv⟩ ho
                refine ⟨v, R.keep HhJ.out ho ?_, hv⟩
                rintro b1 ⟨h1, h2⟩ h3
                have hM1 : ¬ M7 b1 := fun h => by have := (HR8.out.g.mup _ h).2; omega
                refine ⟨by omega, hM1, ?_, ?_, by omega, ?_⟩
                · rintro rfl; have := HR8.out.g.only.size; obtain ⟨e1, hm1, -⟩ := HR8.out.g.map; have := hm1.lt; omega
                · intro h; have := HR8.out.g.marked.lt _ h; omega
                · intro h
                  rcases hv _ h with h4 | h4
                  · omega
                  · exact h2 h4
              case assign =>
                rintro l' x Wx K hK
                gi_wp2
                exact hK
              case body =>
                rintro l' pre ⟨xa, xi⟩ Mz Wx hpre hsz hMz ⟨v, R, hv⟩
                have hpl : pre.length + 1 ≤ P.args.length := by
                  have := hpre.length_le
                  simpa using this
                obtain ⟨Av, cv, rfl, -, -⟩ := own_len R.own
                obtain ⟨k9, hk9⟩ : ∃ k9, ((pre.map Prod.fst).reverse ++ rest).length = k9 := ⟨_, rfl⟩
                have cb : Wx.cell? ⟨bx, 0, none⟩ = some (.slice Av ((pre.map Prod.fst).reverse ++ rest).length cv) := by rw [cell_of_row _ _ _ _ _ _ R.box]; rfl
                have hfz : ∀ w9 : World, w9.heap[bx]? = Wx.heap[bx]? → w9.frozen? ⟨bx, 0, none⟩ = false := fun w9 h9 => by simp [World.frozen?, h9, R.box]
                have hstk : ((pre.map Prod.fst).reverse ++ rest).length + 1 ≤ 10000000000000 := by simp; omega
                have HR := hide R; have Hv := hide hv
                have Hfw : Hid (((pre.map Prod.fst).reverse ++ rest).length + 1 + zeros (updN seen' r 1) S.nodes.length * 1000000 ≤ S.nodes.length * 1000000 + 1) := hide (by
                  have h1 := Hfew.out
                  have h2 := hze.out
                  simp only [List.length_cons] at h1
                  simp; omega)
                clear R hv
                rw [hk9] at cb hstk
                have Hk9 := hide hk9
                have Hown9 := hide HR.out.own
                rw [hk9] at Hown9
                have Hbk : Hid (∀ w9 : World, (Wx.alloc (Obj.cells #[.int .i64 (xa : Int)] 3)).grownBy w9 (Value.slice Av k9 cv).ownBlock → w9.heap[bx]? = Wx.heap[bx]?) := hide (by
                  intro w9 hg9
                  have h1 := HR.out.lt
                  rw [hg9.block bx (by simp; omega) (fun e9 => HR.out.bx_ne.2.2 (by rw [hk9]; exact e9.symm))]
                  exact Below.heap_alloc _ _ _ h1)
                clear hk9
                gi_wp2_with (gi_at_builtin; go_must (refine wpListIn_append_own_at _ rfl (.tmp 60) (.tmp 62) 30 rfl W.heap.size 3 i1 (.int .i64 0) 1 8 Try.underlying30 Ki.out Kz0.out Kz1.out Kz2.out rfl (by decide) (.slice Av k9 cv) k9 (nats ((pre.map Prod.fst).reverse ++ rest).reverse) rfl (Hown9.out.alloc _) ⟨Wx.heap.size, 0, none⟩ 1 1 [.int .i64 (xa : Int)] rfl rfl (cell_one_new _ _ _) (by simp [Value.oneCell']) (by unfold maxLen; omega) (by omega) (by simp; omega) ?_); intro v' w9 hown' hgrow hnil hat; obtain ⟨A9, c9, rfl, -, -⟩ := own_len hown'; have hbk := Hbk.out w9 hgrow; have c9x : w9.cell? ⟨bx, 0, none⟩ = some (.slice Av k9 cv) := (World.cell?_of_block (w := Wx) hbk).trans cb; have f9 := hfz w9 hbk)
                have ho9 : Only (fun b1 => (Value.slice Av ((pre.map Prod.fst).reverse ++ rest).length cv).ownBlock = some b1) Wx w9 := by
                  rw [Hk9.out]
                  exact (Only.refl _ Wx |>.alloc _).grown hgrow (fun b1 e1 => .inl e1)
                have e9 : (pre ++ [(xa, xi)]).map Prod.fst = pre.map Prod.fst ++ [xa] := by simp
                have hlow : ∀ b1, (Value.slice A9 (k9 + 1) c9).ownBlock = some b1 → (Value.slice Av ((pre.map Prod.fst).reverse ++ rest).length cv).ownBlock = some b1 ∨ b1 = Wx.heap.size + 1 := by
                  intro b1 hb1
                  rw [Hk9.out]
                  rcases hat with h1 | h1
                  · exact .inl (h1 ▸ hb1)
                  · rw [hb1] at h1; injection h1 with h1; exact .inr (by simpa using h1)
                have R9 := HR.out.push (v' := .slice A9 (k9 + 1) c9) (stack' := xa :: ((pre.map Prod.fst).reverse ++ rest)) HhJ.out ho9 (by rw [List.length_cons, Hk9.out, List.reverse_cons, nats_snoc]; exact hown') (fun b1 hb1 => by
                  rcases hlow b1 hb1 with h1 | h1
                  · exact HR.out.ownlow b1 h1
                  · intro h2; have := (HR8.out.g.mup _ h2).2; omega) (by have := Hfw.out; simp only [List.length_cons]; omega)
                have ho10 : Only (fun b1 => b1 = bx) w9 (w9.setCell ⟨bx, 0, none⟩ (.slice A9 (k9 + 1) c9)) := Only.setCell (F := fun b => b = bx) (Only.refl _ _) (p := ⟨bx, 0, none⟩) (.inl rfl) _
                have h9l := fun b1 hb1 => (hown'.lt b1 hb1).2
                refine ⟨⟨fun b1 => Mz b1 ∨ (b1 = Wx.heap.size + 1 ∧ b1 < w9.heap.size), ⟨.slice A9 (k9 + 1) c9, ?_, fun b1 hb1 => ?_⟩, fun b1 hb1 => hb1.imp id fun h => ⟨by omega, Nat.lt_of_lt_of_le h.2 ho10.size⟩⟩, (ho9.mono fun b1 _ h => ?_).then_ ho10 (fun b1 h _ => .inl (.inl h))⟩
                · rw [e9, List.reverse_append]; exact R9
                · rcases hlow b1 hb1 with h1 | h1
                  · exact (Hv.out b1 h1).imp id .inl
                  · exact .inr (.inr ⟨h1, h9l b1 hb1⟩)
                · rcases Hv.out b1 h with h1 | h1
                  · exact .inl (.inr h1)
                  · exact .inr h1
              case done =>
                rintro Mz Wx hsz hMz ⟨v, R, hv⟩ hK
                have e9 : (P.args.zipIdx.reverse.map Prod.fst).reverse = P.args := by rw [List.map_reverse, List.reverse_reverse]; simp
                rw [e9] at R
                have hnM : ¬ M7 W8.heap.size := fun h => by have := (HR8.out.g.mup _ h).2; omega
                have R9 := R.mark hK (by have := HR8.out.g.only.size; omega) hnM (fun h => by have := HR8.out.g.marked.lt _ h; omega)
                have HR9 := hide R9
                clear R R9 hv hMz e9
                have hzl := hze.out
                refine loop_end _ _ (W8.heap.size :: Ds7) (zeros (updN seen' r 1) S.nodes.length * 1000002 + (P.args ++ rest).length) (by simp only [List.length_append]; omega) rfl rfl ⟨updN seen' r 1, acc7, P.args ++ rest, M7, v, rfl, rfl, rfl, HI7.out, HR9.out⟩
            have Hcut := hide hcut
            clear hcut hK2
            have k0 : W6.cell? ⟨B9, 0, none⟩ = some (.int .i64 P.kind) := by rw [cell_of_row _ _ _ _ _ _ HB6.out]; rfl
            by_cases hk : P.kind = 1
            · have Hk := hide hk
              have k48 : (P.kind == 1) = true := by simpa using hk
              have hI := VInv.var (show _ from HV.out) HI1.out (by rw [Hr.out]; exact Hs.out) (show (fun r => match S.nodes[par S.forms r]? with | some p => if p.kind = 1 then none else some p.args | none => none) (c y) = none by rw [Hr.out]; simp only [HP.out, if_pos hk])
              rw [Hr.out] at hI
              have hpre : acc' ++ [r] <+: addNew [] (ns.flatMap tv) := by
                refine hI.2.trans ?_
                rw [← HY0.out, Hacc.out, ← addNew_append]
                have e1 : ns.flatMap tv = ((ns.take j).flatMap tv ++ tv x) ++ (ns.drop (j + 1)).flatMap tv := by
                  rw [← Hx.out]; exact flat_split ns j hlt tv
                rw [e1, addNew_append [] ((ns.take j).flatMap tv ++ tv x)]
                exact addNew_prefix _ _
              obtain ⟨fn, tmps, assign, body, hy, hRd⟩ := HhY.out acc' r M' W6 HR6.out.g.J hpre
              have HI2 := hide hI.1
              clear hI hk
              gi_wp2
              refine ⟨fun _ => by omega, hRd.mono ?_⟩
              rintro e' W7 (⟨rfl, ⟨M7, hJ7, hM7⟩, ho7⟩ | ⟨rfl, ⟨M7, hJx7, hM7⟩, ho7⟩)
              · have hrow := HR6.out.row_ne
                have hbxn := HR6.out.bx_ne
                have hnot : ∀ b1, b1 < W6.heap.size → W.heap.size ≤ b1 → ¬ M' b1 → ¬ (Fp b1 ∨ M' b1) ∧ ¬ M7 b1 := fun b1 h1 h2 h3 => ⟨by
                  rintro (h4 | h4)
                  · have := (HFp.out _ h4).1; omega
                  · exact h3 h4, fun h4 => by
                  rcases hM7 _ h4 with h5 | h5
                  · exact h3 h5
                  · omega⟩
                have R7 : IRel W Fp S J W.heap.size bx (.slice (some ⟨gw, 0, none⟩) rest.length capw) (updN seen' r 1) (acc' ++ [r]) rest M7 Ds' W7 := by
                  obtain ⟨e7, hm7, he7⟩ := HR6.out.g.map
                  have h1 := hnot _ hm7.lt (Nat.le_refl _) HR6.out.g.blow.2
                  have h2 := hnot _ HR6.out.lt HR6.out.bxlow.1 HR6.out.bxlow.2
                  have h3 := fun D hD => hnot D (HR6.out.g.marked.lt D hD) (HR6.out.g.mlow D hD).1 (HR6.out.g.mlow D hD).2
                  refine ⟨⟨⟨e7, hm7.keep (ho7.block _ hm7.lt h1.1), he7⟩, HR6.out.g.only.then_ ho7 (fun b1 hb1 _ => ?_), HR6.out.g.marked.keep (fun D hD => ho7.block D (HR6.out.g.marked.lt D hD) (h3 D hD).1), fun D hD => ⟨(HR6.out.g.mlow D hD).1, (h3 D hD).2⟩, ⟨Nat.le_refl _, h1.2⟩, hJ7, fun b1 hb1 => ?_⟩, (ho7.block _ HR6.out.lt h2.1).trans HR6.out.box, own_only HR6.out.own ho7 fun b1 hb1 => (hnot b1 (HR6.out.own.lt b1 hb1).2 (HR6.out.own.lt b1 hb1).1 (HR6.out.ownlow b1 hb1)).1, ⟨HR6.out.bxlow.1, h2.2⟩, fun b1 hb1 => (hnot b1 (HR6.out.own.lt b1 hb1).2 (HR6.out.own.lt b1 hb1).1 (HR6.out.ownlow b1 hb1)).2, HR6.out.few⟩
                  · exact hb1.imp id fun h => (HR6.out.g.mup _ h).1
                  · rcases hM7 _ hb1 with h5 | h5
                    · exact ⟨(HR6.out.g.mup _ h5).1, Nat.lt_of_lt_of_le (HR6.out.g.mup _ h5).2 ho7.size⟩
                    · exact ⟨Nat.le_trans HR6.out.g.only.size h5.1, h5.2⟩
                have hB9l : B9 < W6.heap.size := (Array.getElem?_eq_some_iff.1 HB6.out).1
                have HR7 := hide R7
                have HB7 := hide ((ho7.block _ hB9l (hnot _ hB9l hB9W hB9M).1).trans HB6.out)
                clear R7 ho7 hnot hM7 hJ7 hRd
                gi_wp2
                apply Hcut.out
                refine loop_begin _ _ Ds' rfl rfl ?_
                refine ⟨acc' ++ [r], M7, rfl, rfl, rfl, ?_, HR7.out, HB7.out⟩
                rw [(Hi.out.inv.wf _ _ HP.out).2 Hk.out]
                exact HI2.out
              · clear hRd
                have HJ7 := hide hJx7; have HM7 := hide hM7; have Ho7 := hide ho7
                clear hJx7 hM7 ho7
                gi_wp2
                have hnD : ∀ D ∈ Ds', D < W6.heap.size ∧ W.heap.size ≤ D ∧ ¬ M' D := fun D hD => ⟨HR6.out.g.marked.lt D hD, HR6.out.g.mlow D hD⟩
                refine leaves_marks rfl Ds' W7 (HR6.out.g.marked.keep fun D hD => Ho7.out.block D (hnD D hD).1 ?_) fun W8 ho8 v => ⟨⟨_, rfl⟩, .inr ⟨M7, HhJx.out _ _ _ HJ7.out (ho8.mono fun D _ hD => ⟨(hnD D hD).2.1, fun h => ?_⟩)⟩⟩
                · rintro (h | h)
                  · have := (hnD D hD).2.1; omega
                  · exact (hnD D hD).2.2 h
                · rcases HM7.out _ h with h5 | h5
                  · exact (hnD D hD).2.2 h5
                  · have := (hnD D hD).1; omega
            · have k48 : (P.kind == 1) = false := by simpa using hk
              have hI := VInv.con (show _ from HV.out) HI1.out (by rw [Hr.out]; exact Hs.out) (show (fun r => match S.nodes[par S.forms r]? with | some p => if p.kind = 1 then none else some p.args | none => none) (c y) = some P.args by rw [Hr.out]; simp only [HP.out, if_neg hk])
              rw [Hr.out] at hI
              have HI2 := hide hI
              clear hI hk
              gi_wp2
              refine ⟨fun _ h => (by cases h), ?_⟩
              gi_wp2
              apply Hcut.out
              refine loop_begin _ _ Ds' rfl rfl ?_
              exact ⟨acc', M', rfl, rfl, rfl, HI2.out, HR6.out, HB6.out⟩
          · have k40 : (0 : Int) < (seen' r : Int) := by omega
            have Hs := hide hs; clear hs
            gi_wp2_with (gi_at_lookup; refine wpListIn_map_get rfl (.tmp 37) (.tmp 38) rfl W.heap.size e seen' rfl Hmap.out r rfl (by omega) ?_)
            have hI := HI1.out.skip HV.out (by rw [Hr.out]; exact Hs.out)
            refine loop_end _ _ Ds' (zeros seen' S.nodes.length * 1000002 + rest.length) (by omega) rfl rfl ⟨seen', acc', rest, M', _, rfl, rfl, rfl, hI, HR3.out⟩
    · gi_wp2
      have G := HG.out
      have hjl : j = ns.length := by omega
      refine leaves_marks rfl Ds wr G.marked fun W' ho v => ⟨⟨_, rfl⟩, .inl ⟨M, ?_⟩⟩
      have hA := Hacc.out
      rw [hjl, List.take_length] at hA
      rw [← hA]
      exact HhJ.out _ _ _ _ G.J (ho.mono fun b _ hb => G.mlow b hb)
end Go.Proofs.Ytafpbdmggnfdnaa

/- A map from int to int of one's own: which keys it has, what stands there, how many they are. Plain and inside a fence. -/
namespace Go.Proofs.Ytafpbdmggnfdnaa
open Go.RowKit Go.Shelf Go.Maps
set_option linter.unusedVariables false

/-- Block b is a map of m entries (at most n were put); at a number below 2 ^ 62 it has f. -/
def MapOn (w : World) (b n m : Nat) (f : Nat → Option Nat) : Prop :=
  ∃ D : DataW Unit, w.ownsMap Try.prog 3 (plainElem Try.prog 3) b n D ∧ size D = m ∧ ∀ k : Nat, k < 4611686018427387904 → has D (.int .i64 (k : Int)) = (f k).isSome ∧ D.atKey (.int .i64 (k : Int)) (.lit (.int .i64 0)) = .lit (.int .i64 (((f k).getD 0 : Nat) : Int))
def updO (f : Nat → Option Nat) (k : Nat) (v : Option Nat) : Nat → Option Nat := fun i => if i = k then v else f i
theorem updO_same (f : Nat → Option Nat) (k : Nat) (v : Option Nat) : updO f k v k = v := by simp [updO]
theorem updO_other (f : Nat → Option Nat) (k : Nat) (v : Option Nat) (i : Nat) (h : i ≠ k) : updO f k v i = f i := by simp [updO, h]
theorem MapOn.is {w : World} {b n m : Nat} {f : Nat → Option Nat} (h : MapOn w b n m f) : MapIs w b n (fun k => (f k).getD 0) := by
  obtain ⟨D, h1, _, h3⟩ := h
  exact ⟨D, h1, fun k hk => (h3 k hk).2⟩
theorem MapOn.lt {w : World} {b n m : Nat} {f : Nat → Option Nat} (h : MapOn w b n m f) : b < w.heap.size := h.is.lt
theorem MapOn.obj {w : World} {b n m : Nat} {f : Nat → Option Nat} (h : MapOn w b n m f) : ∃ es k, w.heap[b]? = some (.map es k) := by
  obtain ⟨D, ⟨es, clock, hb, _⟩, _⟩ := h
  exact ⟨_, _, hb⟩
theorem MapOn.keep {w w' : World} {b n m : Nat} {f : Nat → Option Nat} (h : MapOn w b n m f) (hk : w'.heap[b]? = w.heap[b]?) : MapOn w' b n m f := by
  obtain ⟨D, ⟨es, clock, hb, h2⟩, h3⟩ := h
  exact ⟨D, ⟨es, clock, hk.trans hb, h2⟩, h3⟩
theorem MapOn.new (w : World) : MapOn (w.alloc (.map #[] 0)) w.heap.size 0 0 (fun _ => none) :=
  ⟨_, World.ownsMap_made _ _ _ _, rfl, fun k hk => ⟨rfl, rfl⟩⟩
theorem MapOn.le {w : World} {b n m : Nat} {f : Nat → Option Nat} (h : MapOn w b n m f) : m ≤ n := by
  obtain ⟨D, h1, h2, _⟩ := h
  have := h1.size_le; omega
theorem mapOn_put {w' : World} {b n m : Nat} {f : Nat → Option Nat} {D : DataW Unit} (hT : Tidy D) (h2 : size D = m) (h3 : ∀ k : Nat, k < 4611686018427387904 → has D (.int .i64 (k : Int)) = (f k).isSome ∧ D.atKey (.int .i64 (k : Int)) (.lit (.int .i64 0)) = .lit (.int .i64 (((f k).getD 0 : Nat) : Int)))
    (key val : Nat) (hk : key < 4611686018427387904) (hown' : w'.ownsMap Try.prog 3 (plainElem Try.prog 3) b n (D.put (.int .i64 (key : Int)) (.lit (.int .i64 (val : Int))))) : MapOn w' b n (if (f key).isSome then m else m + 1) (updO f key (some val)) := by
  refine ⟨_, hown', ?_, fun k hkk => ?_⟩
  · rw [size_put hT, h2, (h3 key hk).1]
  · by_cases e : k = key
    · subst e
      rw [updO_same]
      exact ⟨has_put_same hT.isMap (by simp [WideAt.IsKeyLit]) _, atKey_put_same hT.isMap (by simp [WideAt.IsKeyLit]) _ _⟩
    · have hne : (Lit.int .i64 (k : Int)) ≠ .int .i64 (key : Int) := by intro e'; injection e' with _ e'; exact e (by omega)
      rw [updO_other _ _ _ _ e]
      exact ⟨(has_put_other hne _).trans (h3 k hkk).1, (atKey_put_other hne _ _).trans (h3 k hkk).2⟩
theorem mapOn_del {w' : World} {b n m : Nat} {f : Nat → Option Nat} {D : DataW Unit} (hT : Tidy D) (h2 : size D = m) (h3 : ∀ k : Nat, k < 4611686018427387904 → has D (.int .i64 (k : Int)) = (f k).isSome ∧ D.atKey (.int .i64 (k : Int)) (.lit (.int .i64 0)) = .lit (.int .i64 (((f k).getD 0 : Nat) : Int)))
    (key : Nat) (hk : key < 4611686018427387904) (hown' : w'.ownsMap Try.prog 3 (plainElem Try.prog 3) b n (D.del (.int .i64 (key : Int)))) : MapOn w' b n (if (f key).isSome then m - 1 else m) (updO f key none) := by
  refine ⟨_, hown', ?_, fun k hkk => ?_⟩
  · have := size_del (k := .int .i64 (key : Int)) hT
    rw [(h3 key hk).1] at this
    split <;> simp_all <;> omega
  · by_cases e : k = key
    · subst e
      rw [updO_same]
      exact ⟨has_del_same, atKey_del_same _⟩
    · have hne : (Lit.int .i64 (k : Int)) ≠ .int .i64 (key : Int) := by intro e'; injection e' with _ e'; exact e (by omega)
      rw [updO_other _ _ _ _ e]
      exact ⟨(has_del_other hne).trans (h3 k hkk).1, (atKey_del_other hne _).trans (h3 k hkk).2⟩
section
variable {F : Fence} {nF : Nat} {w : World} {ops : Array Oper} {rest : List Oper} {o : Oper} {a : Act} {Q : Exit → Act → World → Prop}
theorem wpListIn_on_set (hg : o.guard = none) (m x v : Operand) (hop : o.op = Op.mapUpdate 76 m x v) (b n k : Nat) (f : Nat → Option Nat)
    (hm : a.eval m = .map (some b)) (h : MapOn w b n k f) (hn : n < 1000000000) (key val : Nat) (hx : a.eval x = .int .i64 (key : Int)) (hv : a.eval v = .int .i64 (val : Int)) (hk : key < 4611686018427387904) (hvl : val < 4611686018427387904)
    (hK : ∀ w', MapOn w' b (n + 1) (if (f key).isSome then k else k + 1) (updO f key (some val)) → w.grownBy w' (some b) → wpListIn F nF Try.prog ops Q rest (a.put o.dst undef) w') : wpListIn F nF Try.prog ops Q (o :: rest) a w := by
  obtain ⟨D, hown, h2, h3⟩ := h
  exact wpListIn_mapUpdate_own w hg m x v 76 hop 3 3 (int_keyed Try.underlying3) Try.underlying76 (plainElem Try.prog 3) b n D hm hown (by unfold maxLen; omega) _ _ (.int .i64 (key : Int)) hx hv (keyOf_int_mk Try.underlying3 (int_wf key hk)) (.lit (.int .i64 (val : Int))) [] (plainElem_int Try.underlying3 (int_wf val hvl)) (fun w' hown' hgrow => hK w' (mapOn_put (hown.tidy (int_keyed Try.underlying3)) h2 h3 key val hk hown') hgrow)
theorem wpList_on_set (hg : o.guard = none) (m x v : Operand) (hop : o.op = Op.mapUpdate 76 m x v) (b n k : Nat) (f : Nat → Option Nat)
    (hm : a.eval m = .map (some b)) (h : MapOn w b n k f) (hn : n < 1000000000) (key val : Nat) (hx : a.eval x = .int .i64 (key : Int)) (hv : a.eval v = .int .i64 (val : Int)) (hk : key < 4611686018427387904) (hvl : val < 4611686018427387904)
    (hK : ∀ w', MapOn w' b (n + 1) (if (f key).isSome then k else k + 1) (updO f key (some val)) → w.grownBy w' (some b) → wpList Try.prog ops Q rest (a.put o.dst undef) w') : wpList Try.prog ops Q (o :: rest) a w := by
  obtain ⟨D, hown, h2, h3⟩ := h
  exact wpList_mapUpdate_own w hg m x v 76 hop 3 3 (int_keyed Try.underlying3) Try.underlying76 (plainElem Try.prog 3) b n D hm hown (by unfold maxLen; omega) _ _ (.int .i64 (key : Int)) hx hv (keyOf_int_mk Try.underlying3 (int_wf key hk)) (.lit (.int .i64 (val : Int))) [] (plainElem_int Try.underlying3 (int_wf val hvl)) (fun w' hown' hgrow => hK w' (mapOn_put (hown.tidy (int_keyed Try.underlying3)) h2 h3 key val hk hown') hgrow)
theorem wpListIn_on_get (hg : o.guard = none) (m x : Operand) (hop : o.op = Op.lookup 76 m x false) (b n k : Nat) (f : Nat → Option Nat)
    (hm : a.eval m = .map (some b)) (h : MapOn w b n k f) (key : Nat) (hx : a.eval x = .int .i64 (key : Int)) (hk : key < 4611686018427387904)
    (hK : wpListIn F nF Try.prog ops Q rest (a.put o.dst (.int .i64 (((f key).getD 0 : Nat) : Int))) w) : wpListIn F nF Try.prog ops Q (o :: rest) a w :=
  wpListIn_map_get hg m x hop b n _ hm h.is key hx hk hK
theorem wpList_on_get (hg : o.guard = none) (m x : Operand) (hop : o.op = Op.lookup 76 m x false) (b n k : Nat) (f : Nat → Option Nat)
    (hm : a.eval m = .map (some b)) (h : MapOn w b n k f) (key : Nat) (hx : a.eval x = .int .i64 (key : Int)) (hk : key < 4611686018427387904)
    (hK : wpList Try.prog ops Q rest (a.put o.dst (.int .i64 (((f key).getD 0 : Nat) : Int))) w) : wpList Try.prog ops Q (o :: rest) a w :=
  wpList_map_get hg m x hop b n _ hm h.is key hx hk hK
theorem wpList_on_look (hg : o.guard = none) (m x : Operand) (hop : o.op = Op.lookup 76 m x true) (b n k : Nat) (f : Nat → Option Nat)
    (hm : a.eval m = .map (some b)) (h : MapOn w b n k f) (key : Nat) (hx : a.eval x = .int .i64 (key : Int)) (hk : key < 4611686018427387904)
    (hK : wpList Try.prog ops Q rest (a.put o.dst (.tuple #[.int .i64 (((f key).getD 0 : Nat) : Int), .bool (f key).isSome])) w) : wpList Try.prog ops Q (o :: rest) a w := by
  obtain ⟨D, hown, h2, h3⟩ := h
  refine wpList_lookup_own_ok_int w hg m x 76 hop 3 3 .i64 (int_keyed Try.underlying3) Try.underlying76 Try.underlying3 (zeroInt w) b n D hm hown _ (.int .i64 (key : Int)) hx (keyOf_int_mk Try.underlying3 (int_wf key hk)) (fun c hc _ => ?_)
  rw [(h3 key hk).2] at hc
  injection hc with hc
  injection hc with _ hc
  rw [← hc, (h3 key hk).1]; exact hK
theorem wpListIn_on_len (hg : o.guard = none) (m : Operand) (hop : o.op = Op.call { callee := Callee.builtin Builtin.len, args := #[m], argTypes := #[76] }) (b n k : Nat) (f : Nat → Option Nat)
    (hm : a.eval m = .map (some b)) (h : MapOn w b n k f) (hK : wpListIn F nF Try.prog ops Q rest (a.put o.dst (.int .i64 (k : Int))) w) : wpListIn F nF Try.prog ops Q (o :: rest) a w := by
  obtain ⟨D, hown, h2, h3⟩ := h
  refine wpListIn_plain hg fun K' hK' => ?_
  unfold Oper.wpIn
  refine ⟨by simp [Oper.about, hop, resolve, Target.leads, Sem.run_pure], ?_⟩
  rw [Oper.semAt_plain F _ _ (by rw [hop]; intro c hc'; cases hc')]
  simp [execOp, hop, resolve, invoke, builtin, hm, hown.len Try.underlying76 o.type, Result.andThen]
  rw [h2]
  exact hK' _ _ hK
theorem wpList_on_len (hg : o.guard = none) (m : Operand) (hop : o.op = Op.call { callee := Callee.builtin Builtin.len, args := #[m], argTypes := #[76] }) (b n k : Nat) (f : Nat → Option Nat)
    (hm : a.eval m = .map (some b)) (h : MapOn w b n k f) (hK : wpList Try.prog ops Q rest (a.put o.dst (.int .i64 (k : Int))) w) : wpList Try.prog ops Q (o :: rest) a w := by
  obtain ⟨D, hown, h2, h3⟩ := h
  exact wpList_len_own w hg m 76 hop 3 3 Try.underlying76 _ b n D hm hown (by rw [h2]; exact hK)
theorem wpListIn_on_delete (hg : o.guard = none) (m x : Operand) (hop : o.op = Op.call { callee := Callee.builtin Builtin.delete, args := #[m, x], argTypes := #[76, 3] }) (b n k : Nat) (f : Nat → Option Nat)
    (hm : a.eval m = .map (some b)) (h : MapOn w b n k f) (key : Nat) (hx : a.eval x = .int .i64 (key : Int)) (hk : key < 4611686018427387904)
    (hK : ∀ w', MapOn w' b n (if (f key).isSome then k - 1 else k) (updO f key none) → w.grownBy w' (some b) → wpListIn F nF Try.prog ops Q rest (a.put o.dst (.tuple #[])) w') : wpListIn F nF Try.prog ops Q (o :: rest) a w := by
  obtain ⟨D, hown, h2, h3⟩ := h
  exact wpListIn_delete_own w hg m x 76 3 hop 3 (int_keyed Try.underlying3) Try.underlying76 (plainElem Try.prog 3) b n D hm hown _ (.int .i64 (key : Int)) hx (keyOf_int_mk Try.underlying3 (int_wf key hk)) (fun w' hown' hturn => hK w' (mapOn_del (hown.tidy (int_keyed Try.underlying3)) h2 h3 key hk hown') hturn.grown)
end
end Go.Proofs.Ytafpbdmggnfdnaa

/- Plain: the variables within each node of a store, out of the trees; a forest whose variables are numbered as they come. -/
namespace Go.Proofs.Ytafpbdmggnfdnaa
set_option linter.unusedVariables false

open Classical in
/-- The variables within a node. -/
noncomputable def tvOf (N : List Nd) (c F : Nat → Nat) (x : Nat) : List Nat := if h : ∃ T, Stands N c F [x] T then (Classical.choose h).vars else []
theorem tvOf_eq {N : List Nd} {c F : Nat → Nat} {x : Nat} {T : Fo} (h : Stands N c F [x] T) : tvOf N c F x = T.vars := by
  have hx : ∃ T, Stands N c F [x] T := ⟨T, h⟩
  unfold tvOf
  rw [dif_pos hx, (Classical.choose_spec hx).unique h]
theorem Stands.cons_split {N : List Nd} {c F : Nat → Nat} {x : Nat} {xs : List Nat} {T : Fo} (h : Stands N c F (x :: xs) T) : ∃ A B, T = A.app B ∧ Stands N c F [x] A ∧ Stands N c F xs B := Stands.split (is := [x]) h
theorem Stands.vars_eq {N : List Nd} {c F : Nat → Nat} {xs : List Nat} : ∀ {T : Fo}, Stands N c F xs T → xs.flatMap (tvOf N c F) = T.vars := by
  induction xs with
  | nil => intro T h; cases h; rfl
  | cons x xs ih =>
    intro T h
    obtain ⟨A, B, rfl, h1, h2⟩ := h.cons_split
    rw [List.flatMap_cons, tvOf_eq h1, ih h2, Fo.vars_app]
def headOf (S : PS) (r : Nat) : Option (List Nat) := match S.nodes[par S.forms r]? with | some p => if p.kind = 1 then none else some p.args | none => none
theorem Ok.varsOf {S : PS} {c d : Nat → Nat} (h : Ok S c d) : ∃ g, VarsOf S.nodes.length c (fun r => match S.nodes[par S.forms r]? with | some p => if p.kind = 1 then none else some p.args | none => none) g (tvOf S.nodes c (par S.forms)) := by
  obtain ⟨g, g1, g2⟩ := h.acyc
  refine ⟨g, h.roots, fun i hi => ?_, fun r hr hc hh => ?_, fun r al hr hc hh => ?_⟩
  · obtain ⟨T, hT⟩ := h.stands [i] (by simpa using hi)
    rw [tvOf_eq hT]
    refine tvOf_eq (hT.congr rfl (fun k a b ha hb => ?_))
    rcases k with _ | k
    · simp at ha hb; subst ha; subst hb; exact (h.roots i hi).2.symm
    · simp at ha
  · obtain ⟨p, hp⟩ : ∃ p, S.nodes[par S.forms r]? = some p := ⟨_, List.getElem?_eq_getElem (by have := (h.forms r hr).lt; rwa [hc] at this)⟩
    simp only [hp] at hh
    have hk : p.kind = 1 := by
      by_cases e : p.kind = 1
      · exact e
      · rw [if_neg e] at hh; cases hh
    have hS : Stands S.nodes c (par S.forms) [r] (.var (c r) .nil) := .var (by rw [hc]; exact hp) hk .nil
    rw [tvOf_eq hS]
    simp [Fo.vars, hc]
  · obtain ⟨p, hp⟩ : ∃ p, S.nodes[par S.forms r]? = some p := ⟨_, List.getElem?_eq_getElem (by have := (h.forms r hr).lt; rwa [hc] at this)⟩
    simp only [hp] at hh
    have hk : p.kind ≠ 1 ∧ p.args = al := by
      by_cases e : p.kind = 1
      · rw [if_pos e] at hh; cases hh
      · rw [if_neg e] at hh; injection hh with hh; exact ⟨e, hh⟩
    have hlt : ∀ x ∈ p.args, x < S.nodes.length := fun x hx => by
      have h1 := (h.inv.wf _ p hp).1 x hx
      have h2 := (List.getElem?_eq_some_iff.1 hp).1
      omega
    obtain ⟨A, hA⟩ := h.stands p.args hlt
    have hS : Stands S.nodes c (par S.forms) [r] (.con p.kind p.name A .nil) := .con (by rw [hc]; exact hp) hk.1 hA .nil
    rw [tvOf_eq hS, ← hk.2, hA.vars_eq]
    refine ⟨by simp [Fo.vars], fun x hx => ⟨hlt x hx, ?_⟩⟩
    have h1 := g2 _ p hp x hx
    have h2 := g1 (c x) x (h.roots x (hlt x hx)).1 (hlt x hx) (h.roots x (hlt x hx)).2
    have h3 := h.forms r hr
    rw [hc] at h3
    have h4 := g1 (par S.forms r) r h3.lt hr (by rw [h3.cls, hc])
    omega

/-- The variables' numbers, as they come. -/
def ren (T : Fo) : Fo := T.mapv (fun v => (addNew [] T.vars).idxOf v)
/-- What the map holds behind these variables. -/
def numAt (pre : List Nat) (v : Nat) : Option Nat := if v ∈ pre then some (pre.idxOf v) else none
theorem numAt_nil : numAt [] = fun _ => none := by funext v; simp [numAt]
theorem numAt_snoc (pre : List Nat) (x : Nat) (hx : x ∉ pre) (v : Nat) : numAt (pre ++ [x]) v = if v = x then some pre.length else numAt pre v := by
  unfold numAt
  by_cases e : v = x
  · subst e
    rw [if_pos (by simp), if_pos rfl, List.idxOf_append, if_neg hx]
    simp
  · rw [if_neg e]
    by_cases hv : v ∈ pre
    · rw [if_pos (by simp [hv]), if_pos hv, List.idxOf_append, if_pos hv]
    · rw [if_neg (by simp [hv, e]), if_neg hv]
theorem ren_eq {T : Fo} : T.mapv (fun v => (numAt (addNew [] T.vars) v).getD 0) = ren T := by
  unfold ren
  refine Fo.mapv_congr T (fun v hv => ?_)
  have : v ∈ addNew [] T.vars := (addNew_mem _ _ _).2 (.inr hv)
  simp [numAt, this]
end Go.Proofs.Ytafpbdmggnfdnaa
