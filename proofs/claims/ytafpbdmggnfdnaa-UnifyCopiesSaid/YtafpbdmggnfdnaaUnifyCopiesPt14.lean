/- Part 14 of the proof of UnifyCopies: what follows was kept as these texts: RunWalk. -/
import Derived.Test.YtafpbdmggnfdnaaUnifyCopiesPt1
import Derived.Test.YtafpbdmggnfdnaaUnifyCopiesPt2
import Derived.Test.YtafpbdmggnfdnaaUnifyCopiesPt3
import Derived.Test.YtafpbdmggnfdnaaUnifyCopiesPt4
import Derived.Test.YtafpbdmggnfdnaaUnifyCopiesPt5
import Derived.Test.YtafpbdmggnfdnaaUnifyCopiesPt6
import Derived.Test.YtafpbdmggnfdnaaUnifyCopiesPt7
import Derived.Test.YtafpbdmggnfdnaaUnifyCopiesPt8
import Derived.Test.YtafpbdmggnfdnaaUnifyCopiesPt9
import Derived.Test.YtafpbdmggnfdnaaUnifyCopiesPt10
import Derived.Test.YtafpbdmggnfdnaaUnifyCopiesPt11
import Derived.Test.YtafpbdmggnfdnaaUnifyCopiesPt12
import Derived.Test.YtafpbdmggnfdnaaUnifyCopiesPt13
/- run: both stores behind a script. -/
namespace Go.Proofs.Ytafpbdmggnfdnaa
open Go.RowKit
set_option linter.unusedVariables false

/-- A script in memory. -/
def OpsAt (w : World) (A : Option Addr) (ops : List OpV) : Prop := ops ≠ [] → ∃ b off, A = some ⟨b, off, none⟩ ∧ b < w.heap.size ∧ ∀ (k : Nat) (hk : k < ops.length), w.cell? ⟨b, off + k * 3, none⟩ = some (.int .i64 ops[k].what) ∧ w.cell? ⟨b, off + k * 3 + 1, none⟩ = some (.string ops[k].name) ∧ w.cell? ⟨b, off + k * 3 + 2, none⟩ = some (.slice ops[k].ad ops[k].args.length ops[k].cap) ∧ Ints w ops[k].ad ops[k].args
theorem OpsAt.at_ {w : World} {A : Option Addr} {ops : List OpV} (h : OpsAt w A ops) (k : Nat) (hk : k < ops.length) : ∃ b off, A = some ⟨b, off, none⟩ ∧ b < w.heap.size ∧ w.cell? ⟨b, off + k * 3, none⟩ = some (.int .i64 ops[k].what) ∧ w.cell? ⟨b, off + k * 3 + 1, none⟩ = some (.string ops[k].name) ∧ w.cell? ⟨b, off + k * 3 + 2, none⟩ = some (.slice ops[k].ad ops[k].args.length ops[k].cap) ∧ Ints w ops[k].ad ops[k].args := by
  obtain ⟨b, off, e, hb, hc⟩ := h (by intro e; subst e; simp at hk)
  exact ⟨b, off, e, hb, hc k hk⟩
theorem OpsAt.below {w w' : World} {A : Option Addr} {ops : List OpV} (h : OpsAt w A ops) (hb : Below w.heap.size w w') : OpsAt w' A ops := by
  intro hne
  obtain ⟨b, off, e, hl, hc⟩ := h hne
  refine ⟨b, off, e, Nat.lt_of_lt_of_le hl hb.size, fun k hk => ?_⟩
  obtain ⟨h0, h1, h2, h3⟩ := hc k hk
  exact ⟨(hb.cell (p := ⟨b, _, none⟩) hl).trans h0, (hb.cell (p := ⟨b, _, none⟩) hl).trans h1, (hb.cell (p := ⟨b, _, none⟩) hl).trans h2, Ints.below h3 hb⟩
def OpsFit (ops : List OpV) : Prop := ops.length ≤ 60 ∧ ∀ o ∈ ops, o.args.length ≤ 1000000 ∧ o.name.size ≤ 1000000
theorem nats_cast (l : List Nat) : nats l = (cast l).map (Value.int .i64) := by simp [nats, cast]
theorem nats_of_own {w : World} {base : Nat} {e : TypeId} {v : Value} {xs : List Nat} (h : w.ownsRow base e 1 v xs.length (nats xs)) : ∃ A c, v = .slice A xs.length c ∧ Nats w A xs ∧ (∀ x, A = some x → base ≤ x.block ∧ x.block < w.heap.size) := by
  have hl : (cast xs).length = xs.length := by simp [cast]
  rw [nats_cast, ← hl] at h
  obtain ⟨A, c, h1, h2, h3⟩ := ints_of_own h
  exact ⟨A, c, by rw [h1, hl], h2, h3⟩
theorem Two.facts {K : Nat → Prop} {w0 w : World} {g : Nat} {N N' : List Nd} {c c' : Nat → Nat} {v : Value} (h : Two K w0 g N c v N' c' w) : (∀ i, i < N.length → c i < N.length) ∧ Acyc N c ∧ (∀ i, i < N'.length → c' i < N'.length) ∧ Acyc N' c' ∧ ∃ A cap, v = .slice A N'.length cap := by
  obtain ⟨⟨M, M', h1, h2, h3, h4⟩, h5, h6⟩ := h
  refine ⟨fun i hi => (h1.roots i hi).1, h1.acyc, fun i hi => (h2.roots i hi).1, ?_, h2.slice⟩
  obtain ⟨⟨ad, R, d, k2, rfl, k4, k5, k6⟩, k7⟩ := h2
  exact k4.acyc
/-- At the head of a round of run. -/
structure RunRel (w : World) (ops : List OpV) (g bm : Nat) (v vm : Value) (N : List Nd) (made : List Nat) (c c' : Nat → Nat) (k : Nat) (wr : World) : Prop where
  two : Two (fun b => b = w.heap.size ∨ b = bm ∨ vm.ownBlock = some b) w g N c v N c' wr
  res : wr.heap[w.heap.size]? = some (.cells #[.slice none 0 0] 29 (0, 0))
  box : wr.heap[bm]? = some (.cells #[v] 29 (0, 0))
  row : wr.ownsRow w.heap.size 3 1 vm made.length (nats made)
  runs : RunsR (ops.take k).reverse N made c
  runs' : RunsR (ops.take k).reverse N made c'
  low : w.heap.size < bm
section
variable {K : Nat → Prop} {w0 w w' : World} {g : Nat} {N N' : List Nd} {c c' : Nat → Nat} {v : Value} {kind : Int} {name : ByteArray} {xs : List Int} {e : Ending}
theorem TwoMade.yes (h : TwoMade K w0 g N c v N' c' w kind name xs e w') (he : makeErr N.length kind name xs = 0) : e = .returned (.tuple #[.int .i64 (N.length : Int), .int .i64 0]) ∧ Two K w0 g (makeN N kind name xs) (makeC N c kind name xs) v N' c' w' ∧ Keeps K w w' := by
  obtain ⟨rfl, h1, h2⟩ := h
  exact ⟨by unfold makeV; rw [he, if_pos rfl], h1, h2⟩
theorem TwoMade.no {ev : Int} (h : TwoMade K w0 g N c v N' c' w kind name xs e w') (he : makeErr N.length kind name xs = ev) (h0 : ev ≠ 0) : e = .returned (.tuple #[.int .i64 0, .int .i64 ev]) ∧ Two K w0 g (makeN N kind name xs) (makeC N c kind name xs) v N' c' w' ∧ Keeps K w w' := by
  obtain ⟨rfl, h1, h2⟩ := h
  exact ⟨by unfold makeV; rw [he, if_neg h0], h1, h2⟩
theorem TworMade.yes (h : TworMade K w0 g N c N' c' w kind name xs e w') (he : makeErr N'.length kind name xs = 0) : ∃ v1, e = .returned (.tuple #[.agg #[v1], .int .i64 (N'.length : Int), .int .i64 0]) ∧ Two K w0 g N c v1 (makeN N' kind name xs) (makeC N' c' kind name xs) w' ∧ Keeps K w w' := by
  obtain ⟨v1, rfl, h1, h2⟩ := h
  exact ⟨v1, by unfold makeV; rw [he, if_pos rfl], h1, h2⟩
theorem TworMade.no {ev : Int} (h : TworMade K w0 g N c N' c' w kind name xs e w') (he : makeErr N'.length kind name xs = ev) (h0 : ev ≠ 0) : ∃ v1, e = .returned (.tuple #[.agg #[v1], .int .i64 0, .int .i64 ev]) ∧ Two K w0 g N c v1 (makeN N' kind name xs) (makeC N' c' kind name xs) w' ∧ Keeps K w w' := by
  obtain ⟨v1, rfl, h1, h2⟩ := h
  exact ⟨v1, by unfold makeV; rw [he, if_neg h0], h1, h2⟩
theorem Keeps.trans {w2 : World} (h : Keeps K w w') (k : Keeps K w' w2) : Keeps K w w2 := ⟨Nat.le_trans h.1 k.1, fun b hb => (k.2 b hb).trans (h.2 b hb)⟩
theorem Keeps.of_below (hb : Below w.heap.size w w') (hK : ∀ b, K b → b < w.heap.size) : Keeps K w w' := ⟨hb.size, fun b h => hb.block b (hK b h)⟩
theorem Ints.keeps {A : Option Addr} {ys : List Int} (h : Ints w A ys) (hk : Keeps K w w') (hA : ∀ x, A = some x → K x.block) : Ints w' A ys := h.keep hk.1 (fun a p ha hp hl => World.cell?_of_block (hk.2 p.block (by rw [hp]; exact hA a ha)))
theorem Two.drewN (h : Two K w0 g N c v N' c' w) (n : Nat) : Two K w0 g N c v N' c' (w.drewN n) := h.only (F := fun _ => False) ((Only.refl _ w).drewN n) (fun _ hf => hf.elim)
end
def KRun (w : World) (bm : Nat) (vm : Value) : Nat → Prop := fun b => b = w.heap.size ∨ b = bm ∨ vm.ownBlock = some b
theorem run_next0 {w wr W3 Wb Wd : World} {ops : List OpV} {o : OpV} {g bm k : Nat} {v v1 vm : Value} {N N1 : List Nd} {made : List Nat} {c c' c1 c1' : Nat → Nat} (R : RunRel w ops g bm v vm N made c c' k wr) (hb3 : Below wr.heap.size wr W3) (hT : Two (more (KRun w bm vm) wr W3) w g N1 c1 v1 N1 c1' Wb) (hk1 : Keeps (more (KRun w bm vm) wr W3) W3 Wb)
    (hd : ∃ n, Wd = (Wb.setCell ⟨bm, 0, none⟩ v1).drewN n) (ht : (ops.take (k + 1)).reverse = o :: (ops.take k).reverse) (h1 : StepR o N made c N1 made c1) (h2 : StepR o N made c' N1 made c1') : RunRel w ops g bm v1 vm N1 made c1 c1' (k + 1) Wd := by
  obtain ⟨n, rfl⟩ := hd
  have hbl : bm < wr.heap.size := (Array.getElem?_eq_some_iff.1 R.box).1
  have hwl : w.heap.size < wr.heap.size := (Array.getElem?_eq_some_iff.1 R.res).1
  have hvb : vm.ownBlock ≠ some bm := own_blk R.row R.box (by decide)
  have hon : Only (fun b => b = bm) Wb ((Wb.setCell ⟨bm, 0, none⟩ v1).drewN n) := ((Only.refl (fun b => b = bm) Wb).setCell (p := ⟨bm, 0, none⟩) (.inl rfl) _).drewN n
  have kept : ∀ b, b < wr.heap.size → KRun w bm vm b → Wb.heap[b]? = wr.heap[b]? := fun b hb hK => (hk1.2 b (.inl hK)).trans (hb3.block b hb)
  have hbox := (kept bm hbl (.inr (.inl rfl))).trans R.box
  refine ⟨(hT.only hon (fun b hb => ⟨.inl (.inr (.inl hb)), by have := R.low; omega⟩)).less (fun b hb => .inl hb), ?_, blk_set hbox 0 v1, ?_, ?_, ?_, R.low⟩
  · exact (hon.block _ (by have := hk1.1; have := hb3.size; omega) (by have := R.low; omega)).trans ((kept _ hwl (.inl rfl)).trans R.res)
  · refine own_keep R.row (fun b hb => ?_)
    have hlt := (R.row.lt b hb).2
    exact (hon.block b (by have := hk1.1; have := hb3.size; omega) (fun e => hvb (by rw [← e]; exact hb))).trans (kept b hlt (.inr (.inr hb)))
  · rw [ht]; exact ⟨N, made, c, R.runs, h1⟩
  · rw [ht]; exact ⟨N, made, c', R.runs', h2⟩
theorem run_row {w wr W3 Wb W6 : World} {ops : List OpV} {g bm k : Nat} {v v1 vm : Value} {N : List Nd} {made : List Nat} {c c' : Nat → Nat} (R : RunRel w ops g bm v vm N made c c' k wr) (hb3 : Below wr.heap.size wr W3) (hk1 : Keeps (more (KRun w bm vm) wr W3) W3 Wb) (hd : Wb.setCell ⟨bm, 0, none⟩ v1 = W6) (n : Nat) : (W6.drewN n).ownsRow w.heap.size 3 1 vm made.length (nats made) ∧ w.heap.size ≤ W6.heap.size := by
  subst hd
  have hvb : vm.ownBlock ≠ some bm := own_blk R.row R.box (by decide)
  have hwl : w.heap.size < wr.heap.size := (Array.getElem?_eq_some_iff.1 R.res).1
  have hon : Only (fun b => b = bm) Wb (Wb.setCell ⟨bm, 0, none⟩ v1) := (Only.refl (fun b => b = bm) Wb).setCell (p := ⟨bm, 0, none⟩) (.inl rfl) _
  have hz := hon.size
  have hz1 := hk1.1
  have hz3 := hb3.size
  refine ⟨own_keep R.row (fun b hb => ?_), by omega⟩
  have hlt := (R.row.lt b hb).2
  exact (hon.block b (by omega) (fun e => hvb (by rw [← e]; exact hb))).trans ((hk1.2 b (.inl (.inr (.inr hb)))).trans (hb3.block b hlt))
theorem run_skip {w wr W3 : World} {ops : List OpV} {o : OpV} {g bm k : Nat} {v vm : Value} {N : List Nd} {made : List Nat} {c c' : Nat → Nat} (R : RunRel w ops g bm v vm N made c c' k wr) (hb3 : Below wr.heap.size wr W3) (ht : (ops.take (k + 1)).reverse = o :: (ops.take k).reverse) (ho : o.what < 1 ∨ 5 < o.what) : RunRel w ops g bm v vm N made c c' (k + 1) W3 := by
  have hbl : bm < wr.heap.size := (Array.getElem?_eq_some_iff.1 R.box).1
  have hwl : w.heap.size < wr.heap.size := (Array.getElem?_eq_some_iff.1 R.res).1
  refine ⟨R.two.later hb3, (hb3.block _ hwl).trans R.res, (hb3.block _ hbl).trans R.box, own_keep R.row (fun b hb => hb3.block b (R.row.lt b hb).2), ?_, ?_, R.low⟩
  · rw [ht]; exact ⟨N, made, c, R.runs, .none ho⟩
  · rw [ht]; exact ⟨N, made, c', R.runs', .none ho⟩
/-- .. and a number is put behind what was made. -/
theorem run_next1 {w wr W3 Wb Wd We : World} {ops : List OpV} {o : OpV} {g bm k m : Nat} {v v1 vm vm' : Value} {N N1 : List Nd} {made : List Nat} {c c' c1 c1' : Nat → Nat} (R : RunRel w ops g bm v vm N made c c' k wr) (hb3 : Below wr.heap.size wr W3) (hT : Two (more (KRun w bm vm) wr W3) w g N1 c1 v1 N1 c1' Wb) (hk1 : Keeps (more (KRun w bm vm) wr W3) W3 Wb)
    (hd : ∃ n, Wd = (Wb.setCell ⟨bm, 0, none⟩ v1).drewN n) (ht : (ops.take (k + 1)).reverse = o :: (ops.take k).reverse) (h1 : StepR o N made c N1 (made ++ [m]) c1) (h2 : StepR o N made c' N1 (made ++ [m]) c1')
    (hown : We.ownsRow w.heap.size 3 1 vm' (made.length + 1) (nats made ++ [.int .i64 (m : Int)])) (hg : (Wd.alloc (.cells #[.int .i64 (m : Int)] 3)).grownBy We vm.ownBlock) (hat : vm'.ownBlock = vm.ownBlock ∨ vm'.ownBlock = some (Wd.alloc (.cells #[.int .i64 (m : Int)] 3)).heap.size) : RunRel w ops g bm v1 vm' N1 (made ++ [m]) c1 c1' (k + 1) We := by
  obtain ⟨n, rfl⟩ := hd
  have hbl : bm < wr.heap.size := (Array.getElem?_eq_some_iff.1 R.box).1
  have hwl : w.heap.size < wr.heap.size := (Array.getElem?_eq_some_iff.1 R.res).1
  have hvb : vm.ownBlock ≠ some bm := own_blk R.row R.box (by decide)
  have hvr : vm.ownBlock ≠ some w.heap.size := own_blk R.row R.res (by decide)
  have hon : Only (fun b => b = bm) Wb ((Wb.setCell ⟨bm, 0, none⟩ v1).drewN n) := ((Only.refl (fun b => b = bm) Wb).setCell (p := ⟨bm, 0, none⟩) (.inl rfl) _).drewN n
  have kept : ∀ b, b < wr.heap.size → KRun w bm vm b → Wb.heap[b]? = wr.heap[b]? := fun b hb hK => (hk1.2 b (.inl hK)).trans (hb3.block b hb)
  have hbox := (kept bm hbl (.inr (.inl rfl))).trans R.box
  have hbox' := blk_set hbox 0 v1
  obtain ⟨Wd, hWd⟩ : ∃ Wd, (Wb.setCell ⟨bm, 0, none⟩ v1).drewN n = Wd := ⟨_, rfl⟩
  have hbox2 : Wd.heap[bm]? = some (.cells #[v1] 29 (0, 0)) := by rw [← hWd]; exact hbox'
  rw [hWd] at hon hg hat
  have hz : wr.heap.size ≤ Wb.heap.size := by have := hk1.1; have := hb3.size; omega
  have hz2 := hon.size
  have hTd := hT.only hon (fun b hb => ⟨.inl (.inr (.inl hb)), by have := R.low; omega⟩)
  have hon2 : Only (fun b => vm.ownBlock = some b) Wd We := ((Only.refl _ Wd).alloc _).grown hg (fun b hb => .inl hb)
  have hTe := hTd.moreOnly hon2 (fun b hb => ⟨.inl (.inr (.inr hb)), (R.row.lt b hb).1⟩)
  refine ⟨hTe.less (fun b hb => ?_), ?_, (hon2.block _ (by omega) hvb).trans hbox2, ?_, ?_, ?_, R.low⟩
  · rcases hb with rfl | rfl | hb
    · exact .inl (.inl (.inl rfl))
    · exact .inl (.inl (.inr (.inl rfl)))
    · rcases hat with e | e
      · exact .inl (.inl (.inr (.inr (by rw [← e]; exact hb))))
      · refine .inr ⟨?_, (hown.lt b hb).2⟩
        rw [e, World.size_alloc] at hb; injection hb with hb; omega
  · exact (hon2.block _ (by omega) hvr).trans ((hon.block _ (by omega) (by have := R.low; omega)).trans ((kept _ hwl (.inl rfl)).trans R.res))
  · rw [nats_snoc, List.length_append]; exact hown
  · rw [ht]; exact ⟨N, made, c, R.runs, h1⟩
  · rw [ht]; exact ⟨N, made, c', R.runs', h2⟩
/-- What run answers. -/
def RunPost (w : World) (ops : List OpV) (e : Ending) (w' : World) : Prop :=
  ∃ (g : Nat) (v : Value) (A : Option Addr) (cap : Nat) (N : List Nd) (made : List Nat) (c c' : Nat → Nat), e = .returned (.tuple #[.pointer (some ⟨g, 0, none⟩), .agg #[v], .slice A made.length cap, .bool true]) ∧ RunsR ops.reverse N made c ∧ RunsR ops.reverse N made c' ∧ Two (fun b => ∃ x, A = some x ∧ x.block = b) w g N c v N c' w' ∧ Nats w' A made
theorem eq_ptr (w : World) (a : Addr) : (binOp .eql 26 (.pointer (some a)) (.pointer none)).run Try.prog w = .ok (.bool false) w := by kernel_rfl
set_option maxRecDepth 100000 in
set_option maxHeartbeats 4000000 in
theorem runs_any (w : World) (A : Option Addr) (cap : Nat) (ops : List OpV) (hA : OpsAt w A ops) (hf : OpsFit ops) :
    Calls Try.prog 12 #[.slice A ops.length cap] w (RunPost w ops) := by
  obtain ⟨i1, ki, kz0, kz1, kz2⟩ := info_parts intInfo
  have Ki := hide ki; have Kz0 := hide kz0; have Kz1 := hide kz1; have Kz2 := hide kz2
  clear ki kz0 kz1 kz2
  have HA := hide hA; have Hf := hide hf
  have hlen := hf.1
  have qp := eq_ptr
  have hb0 : Below w.heap.size w (w.alloc (.cells #[.slice none 0 0] 29)) := (Below.refl _ _).alloc (Nat.le_refl _) _
  have hr0 := heap_alloc_new w (.cells #[.slice none 0 0] 29)
  have hz0 : (w.alloc (.cells #[.slice none 0 0] 29)).heap.size = w.heap.size + 1 := World.size_alloc _ _
  obtain ⟨W0, hW0⟩ : ∃ W0, w.alloc (.cells #[.slice none 0 0] 29) = W0 := ⟨_, rfl⟩
  rw [hW0] at hb0 hr0 hz0
  have HW0 := hide hW0; have Hb0 := hide hb0; have Hr0 := hide hr0; have Hz0 := hide hz0
  clear hA hf hW0 hb0 hr0 hz0
  go_enter Try.func12, Try.ntmps12
  go_wp2_with fail
  rw [HW0.out]
  refine (live_new W0).mono ?_
  rintro e w1 ⟨rfl, hl1, hb1⟩
  have hz0 := Hz0.out
  have hz1 : W0.heap.size < w1.heap.size := hl1.lt _ rfl
  have Hb1 := hide hb1; have Hl1 := hide hl1
  clear hb1 hl1
  go_wp2
  obtain ⟨Ws, hWs⟩ : ∃ Ws, (w1.alloc (.cells #[.slice none 0 0] 29)).alloc (.cells #[] 3) = Ws := ⟨_, rfl⟩
  have HR : Hid (RunRel w ops (w.heap.size + 1) w1.heap.size (.slice none 0 0) (.slice (some ⟨w1.heap.size + 1, 0, none⟩) 0 0) [] [] (fun i => i) (fun i => i) 0 Ws) := hide (by
    have hl1 := Hl1.out
    rw [Hz0.out] at hl1
    have hbs : Below w1.heap.size w1 Ws := by rw [← hWs]; exact ((Below.refl _ _).alloc (Nat.le_refl _) _).alloc (by simp) _
    have hbw : Below w.heap.size w w1 := Hb0.out.trans (Hb1.out.mono (by omega))
    have hown : Ws.ownsRow w.heap.size 3 1 (.slice (some ⟨w1.heap.size + 1, 0, none⟩) 0 0) 0 [] := by
      have := World.ownsRow_made (base := w.heap.size) (e := 3) (size := 1) (w1.alloc (.cells #[.slice none 0 0] 29)) #[] 0 (by simp; omega) (Nat.zero_le _) rfl
      rw [World.size_alloc, hWs] at this
      exact this
    have hzs : Ws.heap.size = w1.heap.size + 2 := by rw [← hWs]; simp
    refine ⟨⟨⟨_, _, hl1.below hbs, rlive_new Ws, fun b _ h => h, ?_⟩, hbw.trans (hbs.mono (by omega)), ?_⟩, (hbs.block _ (by omega)).trans ((Hb1.out.block _ (by omega)).trans Hr0.out), ?_, hown, ⟨rfl, rfl, rfl⟩, ⟨rfl, rfl, rfl⟩, by omega⟩
    · rintro b (rfl | h)
      · refine ⟨by omega, ?_⟩
        rintro (e | e | e)
        · omega
        · omega
        · simp [Value.ownBlock] at e; omega
      · exact h.elim
    · rintro b (rfl | rfl | e)
      · omega
      · omega
      · simp [Value.ownBlock] at e; omega
    · rw [← hWs, Below.heap_alloc _ _ _ (by simp)]; exact heap_alloc_new w1 _)
  simp only [hWs]
  clear hWs Hb1 Hl1 Hb0 Hr0 Hz0 HW0
  have hbm : w.heap.size < w1.heap.size := by omega
  clear hz0 hz1
  generalize w1.heap.size = bm at *
  go_loopw [8, 9] (fun vm vi wr => ∃ (k : Nat) (v : Value) (N : List Nd) (made : List Nat) (c c' : Nat → Nat), vi = .int .i64 k ∧ k ≤ ops.length ∧ RunRel w ops (w.heap.size + 1) bm v vm N made c c' k wr) (fun _ vi _ => ops.length - (intOf vi).toNat)
  case atStart => exact ⟨0, _, _, _, _, _, rfl, by omega, HR.out⟩
  case round =>
    obtain ⟨k, v, N, made, c, c', rfl, hk, R⟩ := hrel
    clear HR
    by_cases hlt : k < ops.length
    · obtain ⟨b, off, rfl, hb, d0, d1, d2, hI⟩ := HA.out.at_ k hlt
      obtain ⟨o, ho⟩ : ∃ o, ops[k] = o := ⟨_, rfl⟩
      rw [ho] at d0 d1 d2 hI
      have hfit := Hf.out.2 o (by rw [← ho]; exact List.getElem_mem hlt)
      have hbw := R.two.below
      have e0 := (hbw.cell (p := ⟨b, off + k * 3, none⟩) hb).trans d0
      have e1 := (hbw.cell (p := ⟨b, off + k * 3 + 1, none⟩) hb).trans d1
      have e2 := (hbw.cell (p := ⟨b, off + k * 3 + 2, none⟩) hb).trans d2
      have Htake : Hid ((ops.take (k + 1)).reverse = o :: (ops.take k).reverse) := hide (by rw [take_rev ops k hlt, ho])
      have hfa := R.runs.facts
      have hNl : N.length ≤ 60 := by have := hfa.2.2.1; simp at this; omega
      have hml : made.length ≤ 60 := by have := hfa.2.2.2; simp at this; omega
      obtain ⟨B, mcap, rfl, hmade, hmb⟩ := nats_of_own R.row
      have HRr := hide R
      have HI := hide (Ints.below hI hbw)
      have Hmade := hide hmade
      have hal := hfit.1; have hnl := hfit.2
      have hwz := hbw.size
      clear d0 d1 d2 hI ho hfit hbw hfa R hmade hmb
      go_upto_region 10 with fail
      obtain ⟨W1, hW1⟩ : ∃ W1, wr.alloc (.cells #[.int .i64 o.what, .string o.name, .slice o.ad o.args.length o.cap] 63) = W1 := ⟨_, rfl⟩
      have hb1 : Below wr.heap.size wr W1 := by rw [← hW1]; exact (Below.refl _ _).alloc (Nat.le_refl _) _
      have hob : W1.heap[wr.heap.size]? = some (.cells #[.int .i64 o.what, .string o.name, .slice o.ad o.args.length o.cap] 63 (0, 0)) := by rw [← hW1]; exact heap_alloc_new wr _
      have hz1 : wr.heap.size < W1.heap.size := (Array.getElem?_eq_some_iff.1 hob).1
      simp only [hW1]
      obtain ⟨o0, o1, o2⟩ := three_cells hob
      have Hb1 := hide hb1; have Hob := hide hob
      have HP := hide (placed_any W1 o.ad B o.cap mcap o.args made (Ints.below HI.out hb1) (Ints.below Hmade.out hb1) hal (by omega))
      clear hW1 e0 e1 e2 hb1 hob
      go_wp2_with fail
      refine HP.out.mono ?_
      rintro e W2 ⟨A1, c1, rfl, hI1, hB1, hb2⟩
      have Hl1 := hide (placedL_length o.args made)
      have HQ := hide (pair_fn W2 A1 c1 (placedL o.args made) hI1 (by rw [placedL_length]; exact hal))
      have HI1 := hide hI1; have HB1 := hide hB1; have Hb2 := hide hb2
      have hxl : (placedL o.args made).length ≤ 1000000 := by rw [placedL_length]; exact hal
      obtain ⟨xs, hxs⟩ : ∃ xs, placedL o.args made = xs := ⟨_, rfl⟩
      rw [hxs] at HQ HI1 hxl Hl1
      simp only [hxs]
      have Hxs := hide hxs
      clear hI1 hB1 hb2 HP hxs
      go_wp2_with fail
      refine HQ.out.mono ?_
      rintro e W3 ⟨rfl, nq, rfl⟩
      obtain ⟨W3, hW3⟩ : ∃ W3, W2.drewN nq = W3 := ⟨_, rfl⟩
      have hb3 : Below wr.heap.size wr W3 := by rw [← hW3]; exact below_drewN (Hb1.out.trans (Hb2.out.mono Hb1.out.size)) _
      have hob3 : W3.heap[wr.heap.size]? = some (.cells #[.int .i64 o.what, .string o.name, .slice o.ad o.args.length o.cap] 63 (0, 0)) := by rw [← hW3]; exact (Hb2.out.block _ hz1).trans Hob.out
      have hI3 : Ints W3 A1 xs := by rw [← hW3]; exact HI1.out.drewN _
      have hA3 : ∀ x, A1 = some x → wr.heap.size ≤ x.block ∧ x.block < W3.heap.size := fun x hx => by
        have h1 := HB1.out x hx
        rw [← hW3]
        exact ⟨by have := h1.1; omega, h1.2⟩
      have hwl3 : wr.heap.size < W3.heap.size := (Array.getElem?_eq_some_iff.1 hob3).1
      simp only [hW3]
      obtain ⟨o0, o1, o2⟩ := three_cells hob3
      have HT := hide (HRr.out.two.more hb3)
      have Hb3 := hide hb3; have Hob3 := hide hob3; have HI3 := hide hI3; have HA3 := hide hA3
      clear hW3 hb3 hob3 hI3 hA3 HQ HI1 HB1 Hb2 Hb1 Hob W2
      have HT' : Hid (Two (more (KRun w bm (.slice B made.length mcap)) wr W3) w (w.heap.size + 1) N c v N c' W3) := hide HT.out
      obtain ⟨Av, vcap, hv⟩ := HT.out.facts.2.2.2.2
      subst hv
      have hKo : (more (KRun w bm (.slice B made.length mcap)) wr W3) wr.heap.size := .inr ⟨Nat.le_refl _, hwl3⟩
      have hKb : (more (KRun w bm (.slice B made.length mcap)) wr W3) bm := .inl (.inr (.inl rfl))
      have hbl : bm < wr.heap.size := (Array.getElem?_eq_some_iff.1 HRr.out.box).1
      have Hbox3 := hide ((Hb3.out.block bm hbl).trans HRr.out.box)
      have HKo := hide hKo; have HKb := hide hKb
      have HK3 := hide HT'.out.kept
      have HAk : Hid (∀ x, A1 = some x → (more (KRun w bm (.slice B made.length mcap)) wr W3) x.block) := hide (fun x hx => .inr (HA3.out x hx))
      have hfo := HRr.out.runs.facts
      clear HT hKo hKb hfo
      rcases (show o.what = 1 ∨ o.what = 2 ∨ o.what = 3 ∨ o.what = 4 ∨ o.what = 5 ∨ (o.what < 1 ∨ 5 < o.what) by omega) with ow | ow | ow | ow | ow | ow
      · have How := hide ow
        rw [ow] at o0
        clear ow
        go_wp2_with fail
        refine (two_var HT'.out (by omega)).mono ?_
        rintro e W4 ⟨rfl, hT4, hk4⟩
        have q4 := (hk4.2 bm HKb.out).trans Hbox3.out
        obtain ⟨m4, f4⟩ := one_cell q4
        have hob4 := (hk4.2 wr.heap.size HKo.out).trans Hob3.out
        obtain ⟨p0, p1, p2⟩ := three_cells hob4
        have HT4 := hide hT4; have Hk4 := hide hk4
        clear hT4 hk4 q4 hob4
        go_wp2_with fail
        refine (twor_var HT4.out (by omega)).mono ?_
        rintro e W5 ⟨v1, rfl, hT5, hk5⟩
        have Hs1 : Hid (StepR o N made c (N ++ [varNd]) (made ++ [N.length]) (addC N.length c)) := hide (.var How.out)
        have Hs2 : Hid (StepR o N made c' (N ++ [varNd]) (made ++ [N.length]) (addC N.length c')) := hide (.var How.out)
        have hn6 : (N ++ [varNd]).length ≤ 61 := by simp; omega
        obtain ⟨N1, hN1⟩ : ∃ N1, N ++ [varNd] = N1 := ⟨_, rfl⟩
        obtain ⟨ca, hca⟩ : ∃ ca, addC N.length c = ca := ⟨_, rfl⟩
        obtain ⟨cb, hcb⟩ : ∃ cb, addC N.length c' = cb := ⟨_, rfl⟩
        rw [hN1, hca, hcb] at hT5
        rw [hN1, hca] at Hs1
        rw [hN1, hcb] at Hs2
        rw [hN1] at hn6
        have Hk5 := hide (Hk4.out.trans hk5)
        obtain ⟨A5, cap5, hv5⟩ := hT5.facts.2.2.2.2
        subst hv5
        have HT5 := hide hT5
        clear hN1 hca hcb hT5 hk5 m4 f4 o0 o1 o2 p0 p1 p2
        have q5 := (Hk5.out.2 bm HKb.out).trans Hbox3.out
        obtain ⟨m5, f5⟩ := one_cell q5
        have Hq5 := hide q5
        have Hob5 := hide ((Hk5.out.2 wr.heap.size HKo.out).trans Hob3.out)
        clear q5
        go_upto_region 32 with fail
        obtain ⟨W6, hW6⟩ : ∃ W6, W5.setCell ⟨bm, 0, none⟩ (.slice A5 N1.length cap5) = W6 := ⟨_, rfl⟩
        have hon6 : Only (fun b => b = bm) W5 W6 := by rw [← hW6]; exact (Only.refl (fun b => b = bm) W5).setCell (p := ⟨bm, 0, none⟩) (.inl rfl) _
        have hT6 := HT5.out.only hon6 (fun b hb => ⟨by rw [hb]; exact HKb.out, by omega⟩)
        have q6 : W6.heap[bm]? = some (.cells #[.slice A5 N1.length cap5] 29 (0, 0)) := by rw [← hW6]; exact blk_set Hq5.out 0 _
        obtain ⟨m6, f6⟩ := one_cell q6
        have hob6 := (hon6.block wr.heap.size (Array.getElem?_eq_some_iff.1 Hob5.out).1 (by omega)).trans Hob5.out
        obtain ⟨o0, o1, o2⟩ := three_cells hob6
        rw [How.out] at o0
        have HW6 := hide hW6
        simp only [hW6]
        have HLen := hide (fun n => two_len (hT6.drewN n))
        have kk1 : ((N.length : Int) != (N.length : Int)) = false := by simp
        have kk2 : ((0 : Int) != (0 : Int)) = false := by simp
        have kk3 : ((N1.length : Int) != (N1.length : Int)) = false := by simp
        clear hW6 hon6 hT6 q6 hob6 m5 f5
        go_quiet ((go_at_call 32; exact quiet_of_left (HLen.out _)))
        have hrow := run_row HRr.out Hb3.out Hk5.out HW6.out nq
        have O1 := hide (hrow.1.alloc (.cells #[.int .i64 (N.length : Int)] 3))
        have N1' := hide (one_new (W6.drewN nq) (.int .i64 (N.length : Int)) 3)
        have E1 : Hid (∀ u ∈ [Value.int .i64 (N.length : Int)], u.oneCell' = true) := hide (by simp [Value.oneCell'])
        have hz6 : w.heap.size ≤ W6.heap.size := hrow.2
        clear hrow
        go_wp2_with (at_builtin; refine wpList_append_own_at _ rfl (.tmp 149) (.tmp 151) 30 rfl w.heap.size 3 i1 (.int .i64 0) 1 8 Try.underlying30 Ki.out Kz0.out Kz1.out Kz2.out rfl (by decide) (.slice B made.length mcap) made.length (nats made) rfl O1.out ⟨W6.heap.size, 0, none⟩ 1 1 [.int .i64 (N.length : Int)] rfl rfl N1'.out E1.out (by unfold maxLen; omega) (by omega) (by simp [World.drewN]; omega) ?_; intro v8 W8 own8 grow8 nil8 at8; clear nil8; have Hown8 := hide own8; have Hgrow8 := hide grow8; have Hat8 := hide at8; clear own8 grow8 at8)
        go_roundw
        case measure => simp [intOf]; omega
        case rel => exact ⟨k + 1, _, N1, made ++ [N.length], ca, cb, by go_num, by omega, run_next1 HRr.out Hb3.out HT5.out Hk5.out ⟨nq, by rw [HW6.out]⟩ Htake.out Hs1.out Hs2.out Hown8.out Hgrow8.out Hat8.out⟩
      · have How := hide ow
        rw [ow] at o0
        clear ow
        have Hmo : Hid (MakeOp o made 2 o.name (xs)) := hide (by rw [← Hxs.out]; exact .con How.out)
        obtain ⟨ev, hev⟩ : ∃ ev, makeErr N.length 2 o.name (xs) = ev := ⟨_, rfl⟩
        by_cases h0' : ev = 0
        · subst h0'
          have He := hide hev
          clear hev
          have HC := hide (fun W (hW : Below W3.heap.size W3 W) => copyInts_any A1 c1 xs W (Ints.below HI3.out hW) hxl)
          have HCon := hide (fun W A2 c2 (hW : Below W3.heap.size W3 W) (h2 : Ints W A2 xs) => two_con (HT'.out.later hW) o.name A2 c2 xs h2 hxl hnl (by omega))
          go_upto_region 21 with fail
          have hb0 : Below W3.heap.size W3 W3 := Below.refl _ _
          have hbd : Below W3.heap.size W3 W3.drew := (Below.refl _ _).drew
          go_region_held3 (fun w' => w'.cell? ⟨wr.heap.size, 1, none⟩ = some (.string o.name)) (go_keep)
            (first | (go_at_call 16; refine (HC.out _ (by first | exact hb0 | exact hbd)).mono ?_; rintro e w' ⟨A2, c2, rfl, hI2, hB2, hb2⟩; have hbx := hbd.trans (hb2.mono hbd.size); have r1 := (hbx.cell (p := ⟨wr.heap.size, 1, none⟩) hwl3).trans o1; have HI2 := hide hI2; have Hbx := hide hbx; clear hI2 hB2 hb2 hbx) | (go_at_call 30; refine (HCon.out _ _ _ Hbx.out HI2.out).mono ?_; intro e W4 hm4; obtain ⟨rfl, hT4, hk4'⟩ := hm4.yes He.out; have hk4 := (Keeps.of_below Hbx.out HK3.out).trans hk4'; have r2 := (World.cell?_of_block (a := ⟨wr.heap.size, 1, none⟩) (hk4.2 wr.heap.size HKo.out)).trans o1))
          rename_i hHeld
          clear hHeld hb0 hbd
          clear hm4
          have q4 := (hk4.2 bm HKb.out).trans Hbox3.out
          obtain ⟨m4, f4⟩ := one_cell q4
          have hob4 := (hk4.2 wr.heap.size HKo.out).trans Hob3.out
          obtain ⟨p0, p1, p2⟩ := three_cells hob4
          have HT4 := hide hT4; have Hk4 := hide hk4
          clear hT4 hk4 q4 hob4
          go_wp2_with fail
          refine (twor_make HT4.out 2 (by decide) o.name (hnl) A1 c1 xs (Ints.keeps HI3.out Hk4.out HAk.out) hxl (by omega)).mono ?_
          intro e W5 hm5
          obtain ⟨v1, rfl, hT5, hk5⟩ := hm5.yes He.out
          clear hm5
          have Hs1 : Hid (StepR o N made c (makeN N 2 o.name (xs)) (made ++ [N.length]) (makeC N c 2 o.name (xs))) := hide (by have := StepR.make (N := N) (made := made) (c := c) (o := o) (k := 2) (nm := o.name) (xs := xs) Hmo.out; rw [if_pos He.out] at this; exact this)
          have Hs2 : Hid (StepR o N made c' (makeN N 2 o.name (xs)) (made ++ [N.length]) (makeC N c' 2 o.name (xs))) := hide (by have := StepR.make (N := N) (made := made) (c := c') (o := o) (k := 2) (nm := o.name) (xs := xs) Hmo.out; rw [if_pos He.out] at this; exact this)
          have hn6 : (makeN N 2 o.name (xs)).length ≤ 61 := by rw [makeN_len]; split <;> omega
          obtain ⟨N1, hN1⟩ : ∃ N1, makeN N 2 o.name (xs) = N1 := ⟨_, rfl⟩
          obtain ⟨ca, hca⟩ : ∃ ca, makeC N c 2 o.name (xs) = ca := ⟨_, rfl⟩
          obtain ⟨cb, hcb⟩ : ∃ cb, makeC N c' 2 o.name (xs) = cb := ⟨_, rfl⟩
          rw [hN1, hca, hcb] at hT5
          rw [hN1, hca] at Hs1
          rw [hN1, hcb] at Hs2
          rw [hN1] at hn6
          have Hk5 := hide (Hk4.out.trans hk5)
          obtain ⟨A5, cap5, hv5⟩ := hT5.facts.2.2.2.2
          subst hv5
          have HT5 := hide hT5
          clear hN1 hca hcb hT5 hk5 m4 f4 o0 o1 o2 p0 p1 p2 hk4'
          have q5 := (Hk5.out.2 bm HKb.out).trans Hbox3.out
          obtain ⟨m5, f5⟩ := one_cell q5
          have Hq5 := hide q5
          have Hob5 := hide ((Hk5.out.2 wr.heap.size HKo.out).trans Hob3.out)
          clear q5
          go_upto_region 32 with fail
          obtain ⟨W6, hW6⟩ : ∃ W6, W5.setCell ⟨bm, 0, none⟩ (.slice A5 N1.length cap5) = W6 := ⟨_, rfl⟩
          have hon6 : Only (fun b => b = bm) W5 W6 := by rw [← hW6]; exact (Only.refl (fun b => b = bm) W5).setCell (p := ⟨bm, 0, none⟩) (.inl rfl) _
          have hT6 := HT5.out.only hon6 (fun b hb => ⟨by rw [hb]; exact HKb.out, by omega⟩)
          have q6 : W6.heap[bm]? = some (.cells #[.slice A5 N1.length cap5] 29 (0, 0)) := by rw [← hW6]; exact blk_set Hq5.out 0 _
          obtain ⟨m6, f6⟩ := one_cell q6
          have hob6 := (hon6.block wr.heap.size (Array.getElem?_eq_some_iff.1 Hob5.out).1 (by omega)).trans Hob5.out
          obtain ⟨o0, o1, o2⟩ := three_cells hob6
          rw [How.out] at o0
          have HW6 := hide hW6
          simp only [hW6]
          have HLen := hide (fun n => two_len (hT6.drewN n))
          have kk1 : ((N.length : Int) != (N.length : Int)) = false := by simp
          have kk2 : ((0 : Int) != (0 : Int)) = false := by simp
          have kk3 : ((N1.length : Int) != (N1.length : Int)) = false := by simp
          clear hW6 hon6 hT6 q6 hob6 m5 f5
          go_quiet ((go_at_call 32; exact quiet_of_left (HLen.out _)))
          have hrow := run_row HRr.out Hb3.out Hk5.out HW6.out nq
          have O1 := hide (hrow.1.alloc (.cells #[.int .i64 (N.length : Int)] 3))
          have N1' := hide (one_new (W6.drewN nq) (.int .i64 (N.length : Int)) 3)
          have E1 : Hid (∀ u ∈ [Value.int .i64 (N.length : Int)], u.oneCell' = true) := hide (by simp [Value.oneCell'])
          have hz6 : w.heap.size ≤ W6.heap.size := hrow.2
          clear hrow
          go_wp2_with (at_builtin; refine wpList_append_own_at _ rfl (.tmp 149) (.tmp 151) 30 rfl w.heap.size 3 i1 (.int .i64 0) 1 8 Try.underlying30 Ki.out Kz0.out Kz1.out Kz2.out rfl (by decide) (.slice B made.length mcap) made.length (nats made) rfl O1.out ⟨W6.heap.size, 0, none⟩ 1 1 [.int .i64 (N.length : Int)] rfl rfl N1'.out E1.out (by unfold maxLen; omega) (by omega) (by simp [World.drewN]; omega) ?_; intro v8 W8 own8 grow8 nil8 at8; clear nil8; have Hown8 := hide own8; have Hgrow8 := hide grow8; have Hat8 := hide at8; clear own8 grow8 at8)
          go_roundw
          case measure => simp [intOf]; omega
          case rel => exact ⟨k + 1, _, N1, made ++ [N.length], ca, cb, by go_num, by omega, run_next1 HRr.out Hb3.out HT5.out Hk5.out ⟨nq, by rw [HW6.out]⟩ Htake.out Hs1.out Hs2.out Hown8.out Hgrow8.out Hat8.out⟩
        · have He := hide hev
          have h0 := hide h0'
          have kk4 : (ev == 0) = false := by simpa using h0'
          clear hev h0'
          have HC := hide (fun W (hW : Below W3.heap.size W3 W) => copyInts_any A1 c1 xs W (Ints.below HI3.out hW) hxl)
          have HCon := hide (fun W A2 c2 (hW : Below W3.heap.size W3 W) (h2 : Ints W A2 xs) => two_con (HT'.out.later hW) o.name A2 c2 xs h2 hxl hnl (by omega))
          go_upto_region 21 with fail
          have hb0 : Below W3.heap.size W3 W3 := Below.refl _ _
          have hbd : Below W3.heap.size W3 W3.drew := (Below.refl _ _).drew
          go_region_held3 (fun w' => w'.cell? ⟨wr.heap.size, 1, none⟩ = some (.string o.name)) (go_keep)
            (first | (go_at_call 16; refine (HC.out _ (by first | exact hb0 | exact hbd)).mono ?_; rintro e w' ⟨A2, c2, rfl, hI2, hB2, hb2⟩; have hbx := hbd.trans (hb2.mono hbd.size); have r1 := (hbx.cell (p := ⟨wr.heap.size, 1, none⟩) hwl3).trans o1; have HI2 := hide hI2; have Hbx := hide hbx; clear hI2 hB2 hb2 hbx) | (go_at_call 30; refine (HCon.out _ _ _ Hbx.out HI2.out).mono ?_; intro e W4 hm4; obtain ⟨rfl, hT4, hk4'⟩ := hm4.no He.out h0.out; have hk4 := (Keeps.of_below Hbx.out HK3.out).trans hk4'; have r2 := (World.cell?_of_block (a := ⟨wr.heap.size, 1, none⟩) (hk4.2 wr.heap.size HKo.out)).trans o1))
          rename_i hHeld
          clear hHeld hb0 hbd
          clear hm4
          have q4 := (hk4.2 bm HKb.out).trans Hbox3.out
          obtain ⟨m4, f4⟩ := one_cell q4
          have hob4 := (hk4.2 wr.heap.size HKo.out).trans Hob3.out
          obtain ⟨p0, p1, p2⟩ := three_cells hob4
          have HT4 := hide hT4; have Hk4 := hide hk4
          clear hT4 hk4 q4 hob4
          go_wp2_with fail
          refine (twor_make HT4.out 2 (by decide) o.name (hnl) A1 c1 xs (Ints.keeps HI3.out Hk4.out HAk.out) hxl (by omega)).mono ?_
          intro e W5 hm5
          obtain ⟨v1, rfl, hT5, hk5⟩ := hm5.no He.out h0.out
          clear hm5
          have Hs1 : Hid (StepR o N made c (makeN N 2 o.name (xs)) (made) (makeC N c 2 o.name (xs))) := hide (by have := StepR.make (N := N) (made := made) (c := c) (o := o) (k := 2) (nm := o.name) (xs := xs) Hmo.out; rw [if_neg (by rw [He.out]; exact h0.out)] at this; exact this)
          have Hs2 : Hid (StepR o N made c' (makeN N 2 o.name (xs)) (made) (makeC N c' 2 o.name (xs))) := hide (by have := StepR.make (N := N) (made := made) (c := c') (o := o) (k := 2) (nm := o.name) (xs := xs) Hmo.out; rw [if_neg (by rw [He.out]; exact h0.out)] at this; exact this)
          have hn6 : (makeN N 2 o.name (xs)).length ≤ 61 := by rw [makeN_len]; split <;> omega
          obtain ⟨N1, hN1⟩ : ∃ N1, makeN N 2 o.name (xs) = N1 := ⟨_, rfl⟩
          obtain ⟨ca, hca⟩ : ∃ ca, makeC N c 2 o.name (xs) = ca := ⟨_, rfl⟩
          obtain ⟨cb, hcb⟩ : ∃ cb, makeC N c' 2 o.name (xs) = cb := ⟨_, rfl⟩
          rw [hN1, hca, hcb] at hT5
          rw [hN1, hca] at Hs1
          rw [hN1, hcb] at Hs2
          rw [hN1] at hn6
          have Hk5 := hide (Hk4.out.trans hk5)
          obtain ⟨A5, cap5, hv5⟩ := hT5.facts.2.2.2.2
          subst hv5
          have HT5 := hide hT5
          clear hN1 hca hcb hT5 hk5 m4 f4 o0 o1 o2 p0 p1 p2 hk4'
          have q5 := (Hk5.out.2 bm HKb.out).trans Hbox3.out
          obtain ⟨m5, f5⟩ := one_cell q5
          have Hq5 := hide q5
          have Hob5 := hide ((Hk5.out.2 wr.heap.size HKo.out).trans Hob3.out)
          clear q5
          go_upto_region 32 with fail
          obtain ⟨W6, hW6⟩ : ∃ W6, W5.setCell ⟨bm, 0, none⟩ (.slice A5 N1.length cap5) = W6 := ⟨_, rfl⟩
          have hon6 : Only (fun b => b = bm) W5 W6 := by rw [← hW6]; exact (Only.refl (fun b => b = bm) W5).setCell (p := ⟨bm, 0, none⟩) (.inl rfl) _
          have hT6 := HT5.out.only hon6 (fun b hb => ⟨by rw [hb]; exact HKb.out, by omega⟩)
          have q6 : W6.heap[bm]? = some (.cells #[.slice A5 N1.length cap5] 29 (0, 0)) := by rw [← hW6]; exact blk_set Hq5.out 0 _
          obtain ⟨m6, f6⟩ := one_cell q6
          have hob6 := (hon6.block wr.heap.size (Array.getElem?_eq_some_iff.1 Hob5.out).1 (by omega)).trans Hob5.out
          obtain ⟨o0, o1, o2⟩ := three_cells hob6
          rw [How.out] at o0
          have HW6 := hide hW6
          simp only [hW6]
          have HLen := hide (fun n => two_len (hT6.drewN n))
          have kk1 : ((0 : Int) != (0 : Int)) = false := by simp
          have kk2 : (ev != ev) = false := by simp
          have kk3 : ((N1.length : Int) != (N1.length : Int)) = false := by simp
          clear hW6 hon6 hT6 q6 hob6 m5 f5
          go_quiet ((go_at_call 32; exact quiet_of_left (HLen.out _)))
          go_wp2
          go_roundw
          case measure => simp [intOf]; omega
          case rel => exact ⟨k + 1, _, N1, made, ca, cb, by go_num, by omega, run_next0 HRr.out Hb3.out HT5.out Hk5.out ⟨nq, by rw [HW6.out]⟩ Htake.out Hs1.out Hs2.out⟩
      · have How := hide ow
        rw [ow] at o0
        clear ow
        have Hmo : Hid (MakeOp o made 3 ByteArray.empty (xs)) := hide (by rw [← Hxs.out]; exact .pair How.out)
        obtain ⟨ev, hev⟩ : ∃ ev, makeErr N.length 3 ByteArray.empty (xs) = ev := ⟨_, rfl⟩
        by_cases h0' : ev = 0
        · subst h0'
          have He := hide hev
          clear hev
          go_wp2_with fail
          refine (copyInts_any A1 c1 xs W3 HI3.out hxl).mono ?_
          rintro e Wx ⟨A2, c2, rfl, hI2, hB2, hbx⟩
          have HI2 := hide hI2; have Hbx := hide hbx
          clear hI2 hB2 hbx
          go_wp2_with fail
          refine (two_pair (HT'.out.later Hbx.out) A2 c2 xs HI2.out hxl (by omega)).mono ?_
          intro e W4 hm4
          obtain ⟨rfl, hT4, hk4'⟩ := hm4.yes He.out
          have hk4 := (Keeps.of_below Hbx.out HK3.out).trans hk4'
          clear hm4
          have q4 := (hk4.2 bm HKb.out).trans Hbox3.out
          obtain ⟨m4, f4⟩ := one_cell q4
          have hob4 := (hk4.2 wr.heap.size HKo.out).trans Hob3.out
          obtain ⟨p0, p1, p2⟩ := three_cells hob4
          have HT4 := hide hT4; have Hk4 := hide hk4
          clear hT4 hk4 q4 hob4
          go_wp2_with fail
          refine (twor_make HT4.out 3 (by decide) ByteArray.empty (by decide) A1 c1 xs (Ints.keeps HI3.out Hk4.out HAk.out) hxl (by omega)).mono ?_
          intro e W5 hm5
          obtain ⟨v1, rfl, hT5, hk5⟩ := hm5.yes He.out
          clear hm5
          have Hs1 : Hid (StepR o N made c (makeN N 3 ByteArray.empty (xs)) (made ++ [N.length]) (makeC N c 3 ByteArray.empty (xs))) := hide (by have := StepR.make (N := N) (made := made) (c := c) (o := o) (k := 3) (nm := ByteArray.empty) (xs := xs) Hmo.out; rw [if_pos He.out] at this; exact this)
          have Hs2 : Hid (StepR o N made c' (makeN N 3 ByteArray.empty (xs)) (made ++ [N.length]) (makeC N c' 3 ByteArray.empty (xs))) := hide (by have := StepR.make (N := N) (made := made) (c := c') (o := o) (k := 3) (nm := ByteArray.empty) (xs := xs) Hmo.out; rw [if_pos He.out] at this; exact this)
          have hn6 : (makeN N 3 ByteArray.empty (xs)).length ≤ 61 := by rw [makeN_len]; split <;> omega
          obtain ⟨N1, hN1⟩ : ∃ N1, makeN N 3 ByteArray.empty (xs) = N1 := ⟨_, rfl⟩
          obtain ⟨ca, hca⟩ : ∃ ca, makeC N c 3 ByteArray.empty (xs) = ca := ⟨_, rfl⟩
          obtain ⟨cb, hcb⟩ : ∃ cb, makeC N c' 3 ByteArray.empty (xs) = cb := ⟨_, rfl⟩
          rw [hN1, hca, hcb] at hT5
          rw [hN1, hca] at Hs1
          rw [hN1, hcb] at Hs2
          rw [hN1] at hn6
          have Hk5 := hide (Hk4.out.trans hk5)
          obtain ⟨A5, cap5, hv5⟩ := hT5.facts.2.2.2.2
          subst hv5
          have HT5 := hide hT5
          clear hN1 hca hcb hT5 hk5 m4 f4 o0 o1 o2 p0 p1 p2 hk4'
          have q5 := (Hk5.out.2 bm HKb.out).trans Hbox3.out
          obtain ⟨m5, f5⟩ := one_cell q5
          have Hq5 := hide q5
          have Hob5 := hide ((Hk5.out.2 wr.heap.size HKo.out).trans Hob3.out)
          clear q5
          go_upto_region 32 with fail
          obtain ⟨W6, hW6⟩ : ∃ W6, W5.setCell ⟨bm, 0, none⟩ (.slice A5 N1.length cap5) = W6 := ⟨_, rfl⟩
          have hon6 : Only (fun b => b = bm) W5 W6 := by rw [← hW6]; exact (Only.refl (fun b => b = bm) W5).setCell (p := ⟨bm, 0, none⟩) (.inl rfl) _
          have hT6 := HT5.out.only hon6 (fun b hb => ⟨by rw [hb]; exact HKb.out, by omega⟩)
          have q6 : W6.heap[bm]? = some (.cells #[.slice A5 N1.length cap5] 29 (0, 0)) := by rw [← hW6]; exact blk_set Hq5.out 0 _
          obtain ⟨m6, f6⟩ := one_cell q6
          have hob6 := (hon6.block wr.heap.size (Array.getElem?_eq_some_iff.1 Hob5.out).1 (by omega)).trans Hob5.out
          obtain ⟨o0, o1, o2⟩ := three_cells hob6
          rw [How.out] at o0
          have HW6 := hide hW6
          simp only [hW6]
          have HLen := hide (fun n => two_len (hT6.drewN n))
          have kk1 : ((N.length : Int) != (N.length : Int)) = false := by simp
          have kk2 : ((0 : Int) != (0 : Int)) = false := by simp
          have kk3 : ((N1.length : Int) != (N1.length : Int)) = false := by simp
          clear hW6 hon6 hT6 q6 hob6 m5 f5
          go_quiet ((go_at_call 32; exact quiet_of_left (HLen.out _)))
          have hrow := run_row HRr.out Hb3.out Hk5.out HW6.out nq
          have O1 := hide (hrow.1.alloc (.cells #[.int .i64 (N.length : Int)] 3))
          have N1' := hide (one_new (W6.drewN nq) (.int .i64 (N.length : Int)) 3)
          have E1 : Hid (∀ u ∈ [Value.int .i64 (N.length : Int)], u.oneCell' = true) := hide (by simp [Value.oneCell'])
          have hz6 : w.heap.size ≤ W6.heap.size := hrow.2
          clear hrow
          go_wp2_with (at_builtin; refine wpList_append_own_at _ rfl (.tmp 149) (.tmp 151) 30 rfl w.heap.size 3 i1 (.int .i64 0) 1 8 Try.underlying30 Ki.out Kz0.out Kz1.out Kz2.out rfl (by decide) (.slice B made.length mcap) made.length (nats made) rfl O1.out ⟨W6.heap.size, 0, none⟩ 1 1 [.int .i64 (N.length : Int)] rfl rfl N1'.out E1.out (by unfold maxLen; omega) (by omega) (by simp [World.drewN]; omega) ?_; intro v8 W8 own8 grow8 nil8 at8; clear nil8; have Hown8 := hide own8; have Hgrow8 := hide grow8; have Hat8 := hide at8; clear own8 grow8 at8)
          go_roundw
          case measure => simp [intOf]; omega
          case rel => exact ⟨k + 1, _, N1, made ++ [N.length], ca, cb, by go_num, by omega, run_next1 HRr.out Hb3.out HT5.out Hk5.out ⟨nq, by rw [HW6.out]⟩ Htake.out Hs1.out Hs2.out Hown8.out Hgrow8.out Hat8.out⟩
        · have He := hide hev
          have h0 := hide h0'
          have kk4 : (ev == 0) = false := by simpa using h0'
          clear hev h0'
          go_wp2_with fail
          refine (copyInts_any A1 c1 xs W3 HI3.out hxl).mono ?_
          rintro e Wx ⟨A2, c2, rfl, hI2, hB2, hbx⟩
          have HI2 := hide hI2; have Hbx := hide hbx
          clear hI2 hB2 hbx
          go_wp2_with fail
          refine (two_pair (HT'.out.later Hbx.out) A2 c2 xs HI2.out hxl (by omega)).mono ?_
          intro e W4 hm4
          obtain ⟨rfl, hT4, hk4'⟩ := hm4.no He.out h0.out
          have hk4 := (Keeps.of_below Hbx.out HK3.out).trans hk4'
          clear hm4
          have q4 := (hk4.2 bm HKb.out).trans Hbox3.out
          obtain ⟨m4, f4⟩ := one_cell q4
          have hob4 := (hk4.2 wr.heap.size HKo.out).trans Hob3.out
          obtain ⟨p0, p1, p2⟩ := three_cells hob4
          have HT4 := hide hT4; have Hk4 := hide hk4
          clear hT4 hk4 q4 hob4
          go_wp2_with fail
          refine (twor_make HT4.out 3 (by decide) ByteArray.empty (by decide) A1 c1 xs (Ints.keeps HI3.out Hk4.out HAk.out) hxl (by omega)).mono ?_
          intro e W5 hm5
          obtain ⟨v1, rfl, hT5, hk5⟩ := hm5.no He.out h0.out
          clear hm5
          have Hs1 : Hid (StepR o N made c (makeN N 3 ByteArray.empty (xs)) (made) (makeC N c 3 ByteArray.empty (xs))) := hide (by have := StepR.make (N := N) (made := made) (c := c) (o := o) (k := 3) (nm := ByteArray.empty) (xs := xs) Hmo.out; rw [if_neg (by rw [He.out]; exact h0.out)] at this; exact this)
          have Hs2 : Hid (StepR o N made c' (makeN N 3 ByteArray.empty (xs)) (made) (makeC N c' 3 ByteArray.empty (xs))) := hide (by have := StepR.make (N := N) (made := made) (c := c') (o := o) (k := 3) (nm := ByteArray.empty) (xs := xs) Hmo.out; rw [if_neg (by rw [He.out]; exact h0.out)] at this; exact this)
          have hn6 : (makeN N 3 ByteArray.empty (xs)).length ≤ 61 := by rw [makeN_len]; split <;> omega
          obtain ⟨N1, hN1⟩ : ∃ N1, makeN N 3 ByteArray.empty (xs) = N1 := ⟨_, rfl⟩
          obtain ⟨ca, hca⟩ : ∃ ca, makeC N c 3 ByteArray.empty (xs) = ca := ⟨_, rfl⟩
          obtain ⟨cb, hcb⟩ : ∃ cb, makeC N c' 3 ByteArray.empty (xs) = cb := ⟨_, rfl⟩
          rw [hN1, hca, hcb] at hT5
          rw [hN1, hca] at Hs1
          rw [hN1, hcb] at Hs2
          rw [hN1] at hn6
          have Hk5 := hide (Hk4.out.trans hk5)
          obtain ⟨A5, cap5, hv5⟩ := hT5.facts.2.2.2.2
          subst hv5
          have HT5 := hide hT5
          clear hN1 hca hcb hT5 hk5 m4 f4 o0 o1 o2 p0 p1 p2 hk4'
          have q5 := (Hk5.out.2 bm HKb.out).trans Hbox3.out
          obtain ⟨m5, f5⟩ := one_cell q5
          have Hq5 := hide q5
          have Hob5 := hide ((Hk5.out.2 wr.heap.size HKo.out).trans Hob3.out)
          clear q5
          go_upto_region 32 with fail
          obtain ⟨W6, hW6⟩ : ∃ W6, W5.setCell ⟨bm, 0, none⟩ (.slice A5 N1.length cap5) = W6 := ⟨_, rfl⟩
          have hon6 : Only (fun b => b = bm) W5 W6 := by rw [← hW6]; exact (Only.refl (fun b => b = bm) W5).setCell (p := ⟨bm, 0, none⟩) (.inl rfl) _
          have hT6 := HT5.out.only hon6 (fun b hb => ⟨by rw [hb]; exact HKb.out, by omega⟩)
          have q6 : W6.heap[bm]? = some (.cells #[.slice A5 N1.length cap5] 29 (0, 0)) := by rw [← hW6]; exact blk_set Hq5.out 0 _
          obtain ⟨m6, f6⟩ := one_cell q6
          have hob6 := (hon6.block wr.heap.size (Array.getElem?_eq_some_iff.1 Hob5.out).1 (by omega)).trans Hob5.out
          obtain ⟨o0, o1, o2⟩ := three_cells hob6
          rw [How.out] at o0
          have HW6 := hide hW6
          simp only [hW6]
          have HLen := hide (fun n => two_len (hT6.drewN n))
          have kk1 : ((0 : Int) != (0 : Int)) = false := by simp
          have kk2 : (ev != ev) = false := by simp
          have kk3 : ((N1.length : Int) != (N1.length : Int)) = false := by simp
          clear hW6 hon6 hT6 q6 hob6 m5 f5
          go_quiet ((go_at_call 32; exact quiet_of_left (HLen.out _)))
          go_wp2
          go_roundw
          case measure => simp [intOf]; omega
          case rel => exact ⟨k + 1, _, N1, made, ca, cb, by go_num, by omega, run_next0 HRr.out Hb3.out HT5.out Hk5.out ⟨nq, by rw [HW6.out]⟩ Htake.out Hs1.out Hs2.out⟩
      · have How := hide ow
        rw [ow] at o0
        clear ow
        have Hmo : Hid (MakeOp o made 4 ByteArray.empty ([fst2 xs, snd2 xs])) := hide (by rw [← Hxs.out]; exact .arrow How.out)
        obtain ⟨ev, hev⟩ : ∃ ev, makeErr N.length 4 ByteArray.empty ([fst2 xs, snd2 xs]) = ev := ⟨_, rfl⟩
        by_cases h0' : ev = 0
        · subst h0'
          have He := hide hev
          clear hev
          go_wp2_with fail
          refine (two_arrow HT'.out (fst2 xs) (snd2 xs) (by omega)).mono ?_
          intro e W4 hm4
          obtain ⟨rfl, hT4, hk4'⟩ := hm4.yes He.out
          have hk4 := hk4'
          clear hm4
          have q4 := (hk4.2 bm HKb.out).trans Hbox3.out
          obtain ⟨m4, f4⟩ := one_cell q4
          have hob4 := (hk4.2 wr.heap.size HKo.out).trans Hob3.out
          obtain ⟨p0, p1, p2⟩ := three_cells hob4
          have HT4 := hide hT4; have Hk4 := hide hk4
          clear hT4 hk4 q4 hob4
          go_wp2_with fail
          have hbz : Below W4.heap.size W4 (W4.alloc (.cells #[.int .i64 (fst2 xs), .int .i64 (snd2 xs)] 3)) := (Below.refl _ _).alloc (Nat.le_refl _) _
          refine (twor_make (HT4.out.later hbz) 4 (by decide) ByteArray.empty (by decide) (some ⟨W4.heap.size, 0, none⟩) 2 [fst2 xs, snd2 xs] (ints_two W4 _ _ _) (by simp) (by omega)).mono ?_
          intro e W5 hm5
          obtain ⟨v1, rfl, hT5, hk5'⟩ := hm5.yes He.out
          have hk5 := (Keeps.of_below hbz HT4.out.kept).trans hk5'
          clear hbz hk5'
          clear hm5
          have Hs1 : Hid (StepR o N made c (makeN N 4 ByteArray.empty ([fst2 xs, snd2 xs])) (made ++ [N.length]) (makeC N c 4 ByteArray.empty ([fst2 xs, snd2 xs]))) := hide (by have := StepR.make (N := N) (made := made) (c := c) (o := o) (k := 4) (nm := ByteArray.empty) (xs := [fst2 xs, snd2 xs]) Hmo.out; rw [if_pos He.out] at this; exact this)
          have Hs2 : Hid (StepR o N made c' (makeN N 4 ByteArray.empty ([fst2 xs, snd2 xs])) (made ++ [N.length]) (makeC N c' 4 ByteArray.empty ([fst2 xs, snd2 xs]))) := hide (by have := StepR.make (N := N) (made := made) (c := c') (o := o) (k := 4) (nm := ByteArray.empty) (xs := [fst2 xs, snd2 xs]) Hmo.out; rw [if_pos He.out] at this; exact this)
          have hn6 : (makeN N 4 ByteArray.empty ([fst2 xs, snd2 xs])).length ≤ 61 := by rw [makeN_len]; split <;> omega
          obtain ⟨N1, hN1⟩ : ∃ N1, makeN N 4 ByteArray.empty ([fst2 xs, snd2 xs]) = N1 := ⟨_, rfl⟩
          obtain ⟨ca, hca⟩ : ∃ ca, makeC N c 4 ByteArray.empty ([fst2 xs, snd2 xs]) = ca := ⟨_, rfl⟩
          obtain ⟨cb, hcb⟩ : ∃ cb, makeC N c' 4 ByteArray.empty ([fst2 xs, snd2 xs]) = cb := ⟨_, rfl⟩
          rw [hN1, hca, hcb] at hT5
          rw [hN1, hca] at Hs1
          rw [hN1, hcb] at Hs2
          rw [hN1] at hn6
          have Hk5 := hide (Hk4.out.trans hk5)
          obtain ⟨A5, cap5, hv5⟩ := hT5.facts.2.2.2.2
          subst hv5
          have HT5 := hide hT5
          clear hN1 hca hcb hT5 hk5 m4 f4 o0 o1 o2 p0 p1 p2 hk4'
          have q5 := (Hk5.out.2 bm HKb.out).trans Hbox3.out
          obtain ⟨m5, f5⟩ := one_cell q5
          have Hq5 := hide q5
          have Hob5 := hide ((Hk5.out.2 wr.heap.size HKo.out).trans Hob3.out)
          clear q5
          go_upto_region 32 with fail
          obtain ⟨W6, hW6⟩ : ∃ W6, W5.setCell ⟨bm, 0, none⟩ (.slice A5 N1.length cap5) = W6 := ⟨_, rfl⟩
          have hon6 : Only (fun b => b = bm) W5 W6 := by rw [← hW6]; exact (Only.refl (fun b => b = bm) W5).setCell (p := ⟨bm, 0, none⟩) (.inl rfl) _
          have hT6 := HT5.out.only hon6 (fun b hb => ⟨by rw [hb]; exact HKb.out, by omega⟩)
          have q6 : W6.heap[bm]? = some (.cells #[.slice A5 N1.length cap5] 29 (0, 0)) := by rw [← hW6]; exact blk_set Hq5.out 0 _
          obtain ⟨m6, f6⟩ := one_cell q6
          have hob6 := (hon6.block wr.heap.size (Array.getElem?_eq_some_iff.1 Hob5.out).1 (by omega)).trans Hob5.out
          obtain ⟨o0, o1, o2⟩ := three_cells hob6
          rw [How.out] at o0
          have HW6 := hide hW6
          simp only [hW6]
          have HLen := hide (fun n => two_len (hT6.drewN n))
          have kk1 : ((N.length : Int) != (N.length : Int)) = false := by simp
          have kk2 : ((0 : Int) != (0 : Int)) = false := by simp
          have kk3 : ((N1.length : Int) != (N1.length : Int)) = false := by simp
          clear hW6 hon6 hT6 q6 hob6 m5 f5
          go_quiet ((go_at_call 32; exact quiet_of_left (HLen.out _)))
          have hrow := run_row HRr.out Hb3.out Hk5.out HW6.out nq
          have O1 := hide (hrow.1.alloc (.cells #[.int .i64 (N.length : Int)] 3))
          have N1' := hide (one_new (W6.drewN nq) (.int .i64 (N.length : Int)) 3)
          have E1 : Hid (∀ u ∈ [Value.int .i64 (N.length : Int)], u.oneCell' = true) := hide (by simp [Value.oneCell'])
          have hz6 : w.heap.size ≤ W6.heap.size := hrow.2
          clear hrow
          go_wp2_with (at_builtin; refine wpList_append_own_at _ rfl (.tmp 149) (.tmp 151) 30 rfl w.heap.size 3 i1 (.int .i64 0) 1 8 Try.underlying30 Ki.out Kz0.out Kz1.out Kz2.out rfl (by decide) (.slice B made.length mcap) made.length (nats made) rfl O1.out ⟨W6.heap.size, 0, none⟩ 1 1 [.int .i64 (N.length : Int)] rfl rfl N1'.out E1.out (by unfold maxLen; omega) (by omega) (by simp [World.drewN]; omega) ?_; intro v8 W8 own8 grow8 nil8 at8; clear nil8; have Hown8 := hide own8; have Hgrow8 := hide grow8; have Hat8 := hide at8; clear own8 grow8 at8)
          go_roundw
          case measure => simp [intOf]; omega
          case rel => exact ⟨k + 1, _, N1, made ++ [N.length], ca, cb, by go_num, by omega, run_next1 HRr.out Hb3.out HT5.out Hk5.out ⟨nq, by rw [HW6.out]⟩ Htake.out Hs1.out Hs2.out Hown8.out Hgrow8.out Hat8.out⟩
        · have He := hide hev
          have h0 := hide h0'
          have kk4 : (ev == 0) = false := by simpa using h0'
          clear hev h0'
          go_wp2_with fail
          refine (two_arrow HT'.out (fst2 xs) (snd2 xs) (by omega)).mono ?_
          intro e W4 hm4
          obtain ⟨rfl, hT4, hk4'⟩ := hm4.no He.out h0.out
          have hk4 := hk4'
          clear hm4
          have q4 := (hk4.2 bm HKb.out).trans Hbox3.out
          obtain ⟨m4, f4⟩ := one_cell q4
          have hob4 := (hk4.2 wr.heap.size HKo.out).trans Hob3.out
          obtain ⟨p0, p1, p2⟩ := three_cells hob4
          have HT4 := hide hT4; have Hk4 := hide hk4
          clear hT4 hk4 q4 hob4
          go_wp2_with fail
          have hbz : Below W4.heap.size W4 (W4.alloc (.cells #[.int .i64 (fst2 xs), .int .i64 (snd2 xs)] 3)) := (Below.refl _ _).alloc (Nat.le_refl _) _
          refine (twor_make (HT4.out.later hbz) 4 (by decide) ByteArray.empty (by decide) (some ⟨W4.heap.size, 0, none⟩) 2 [fst2 xs, snd2 xs] (ints_two W4 _ _ _) (by simp) (by omega)).mono ?_
          intro e W5 hm5
          obtain ⟨v1, rfl, hT5, hk5'⟩ := hm5.no He.out h0.out
          have hk5 := (Keeps.of_below hbz HT4.out.kept).trans hk5'
          clear hbz hk5'
          clear hm5
          have Hs1 : Hid (StepR o N made c (makeN N 4 ByteArray.empty ([fst2 xs, snd2 xs])) (made) (makeC N c 4 ByteArray.empty ([fst2 xs, snd2 xs]))) := hide (by have := StepR.make (N := N) (made := made) (c := c) (o := o) (k := 4) (nm := ByteArray.empty) (xs := [fst2 xs, snd2 xs]) Hmo.out; rw [if_neg (by rw [He.out]; exact h0.out)] at this; exact this)
          have Hs2 : Hid (StepR o N made c' (makeN N 4 ByteArray.empty ([fst2 xs, snd2 xs])) (made) (makeC N c' 4 ByteArray.empty ([fst2 xs, snd2 xs]))) := hide (by have := StepR.make (N := N) (made := made) (c := c') (o := o) (k := 4) (nm := ByteArray.empty) (xs := [fst2 xs, snd2 xs]) Hmo.out; rw [if_neg (by rw [He.out]; exact h0.out)] at this; exact this)
          have hn6 : (makeN N 4 ByteArray.empty ([fst2 xs, snd2 xs])).length ≤ 61 := by rw [makeN_len]; split <;> omega
          obtain ⟨N1, hN1⟩ : ∃ N1, makeN N 4 ByteArray.empty ([fst2 xs, snd2 xs]) = N1 := ⟨_, rfl⟩
          obtain ⟨ca, hca⟩ : ∃ ca, makeC N c 4 ByteArray.empty ([fst2 xs, snd2 xs]) = ca := ⟨_, rfl⟩
          obtain ⟨cb, hcb⟩ : ∃ cb, makeC N c' 4 ByteArray.empty ([fst2 xs, snd2 xs]) = cb := ⟨_, rfl⟩
          rw [hN1, hca, hcb] at hT5
          rw [hN1, hca] at Hs1
          rw [hN1, hcb] at Hs2
          rw [hN1] at hn6
          have Hk5 := hide (Hk4.out.trans hk5)
          obtain ⟨A5, cap5, hv5⟩ := hT5.facts.2.2.2.2
          subst hv5
          have HT5 := hide hT5
          clear hN1 hca hcb hT5 hk5 m4 f4 o0 o1 o2 p0 p1 p2 hk4'
          have q5 := (Hk5.out.2 bm HKb.out).trans Hbox3.out
          obtain ⟨m5, f5⟩ := one_cell q5
          have Hq5 := hide q5
          have Hob5 := hide ((Hk5.out.2 wr.heap.size HKo.out).trans Hob3.out)
          clear q5
          go_upto_region 32 with fail
          obtain ⟨W6, hW6⟩ : ∃ W6, W5.setCell ⟨bm, 0, none⟩ (.slice A5 N1.length cap5) = W6 := ⟨_, rfl⟩
          have hon6 : Only (fun b => b = bm) W5 W6 := by rw [← hW6]; exact (Only.refl (fun b => b = bm) W5).setCell (p := ⟨bm, 0, none⟩) (.inl rfl) _
          have hT6 := HT5.out.only hon6 (fun b hb => ⟨by rw [hb]; exact HKb.out, by omega⟩)
          have q6 : W6.heap[bm]? = some (.cells #[.slice A5 N1.length cap5] 29 (0, 0)) := by rw [← hW6]; exact blk_set Hq5.out 0 _
          obtain ⟨m6, f6⟩ := one_cell q6
          have hob6 := (hon6.block wr.heap.size (Array.getElem?_eq_some_iff.1 Hob5.out).1 (by omega)).trans Hob5.out
          obtain ⟨o0, o1, o2⟩ := three_cells hob6
          rw [How.out] at o0
          have HW6 := hide hW6
          simp only [hW6]
          have HLen := hide (fun n => two_len (hT6.drewN n))
          have kk1 : ((0 : Int) != (0 : Int)) = false := by simp
          have kk2 : (ev != ev) = false := by simp
          have kk3 : ((N1.length : Int) != (N1.length : Int)) = false := by simp
          clear hW6 hon6 hT6 q6 hob6 m5 f5
          go_quiet ((go_at_call 32; exact quiet_of_left (HLen.out _)))
          go_wp2
          go_roundw
          case measure => simp [intOf]; omega
          case rel => exact ⟨k + 1, _, N1, made, ca, cb, by go_num, by omega, run_next0 HRr.out Hb3.out HT5.out Hk5.out ⟨nq, by rw [HW6.out]⟩ Htake.out Hs1.out Hs2.out⟩
      · have How := hide ow
        rw [ow] at o0
        clear ow
        go_wp2_with fail
        refine (two_unify HT'.out (fst2 xs) (snd2 xs)).mono ?_
        rintro e W4 ⟨ev, ca, rfl, hu4, hT4, hk4⟩
        have Hu4 := hide hu4
        clear hu4
        have q4 := (hk4.2 bm HKb.out).trans Hbox3.out
        obtain ⟨m4, f4⟩ := one_cell q4
        have hob4 := (hk4.2 wr.heap.size HKo.out).trans Hob3.out
        obtain ⟨p0, p1, p2⟩ := three_cells hob4
        have HT4 := hide hT4; have Hk4 := hide hk4
        clear hT4 hk4 q4 hob4
        go_wp2_with fail
        refine (twor_unify HT4.out (fst2 xs) (snd2 xs)).mono ?_
        rintro e W5 ⟨ev', v1, cb, rfl, hu5, hT5, hk5⟩
        have hsame := (HRr.out.runs.same HRr.out.runs').2.2
        obtain ⟨rfl, -⟩ : ev = ev' ∧ True := ⟨(uni_same hsame (.inl ⟨rfl, rfl⟩) Hu4.out hu5 HT4.out.facts.2.1 hT5.facts.2.2.2.1).1, trivial⟩
        have Hs1 : Hid (StepR o N made c N made ca) := hide (.uni How.out (by rw [Hxs.out]; exact Hu4.out) HT4.out.facts.1 HT4.out.facts.2.1)
        have Hs2 : Hid (StepR o N made c' N made cb) := hide (.uni How.out (by rw [Hxs.out]; exact hu5) hT5.facts.2.2.1 hT5.facts.2.2.2.1)
        have Hk5 := hide (Hk4.out.trans hk5)
        obtain ⟨A5, cap5, hv5⟩ := hT5.facts.2.2.2.2
        subst hv5
        have HT5 := hide hT5
        clear hT5 hk5 m4 f4 o0 o1 o2 p0 p1 p2 hsame hu5
        obtain ⟨N1, hN1⟩ : ∃ N1, N = N1 := ⟨_, rfl⟩
        subst hN1
        rcases (show (ev == 0) = true ∨ (ev == 0) = false by cases (ev == 0) <;> simp) with kk4 | kk4
        · have q5 := (Hk5.out.2 bm HKb.out).trans Hbox3.out
          obtain ⟨m5, f5⟩ := one_cell q5
          have Hq5 := hide q5
          have Hob5 := hide ((Hk5.out.2 wr.heap.size HKo.out).trans Hob3.out)
          clear q5
          go_upto_region 32 with fail
          obtain ⟨W6, hW6⟩ : ∃ W6, W5.setCell ⟨bm, 0, none⟩ (.slice A5 N.length cap5) = W6 := ⟨_, rfl⟩
          have hon6 : Only (fun b => b = bm) W5 W6 := by rw [← hW6]; exact (Only.refl (fun b => b = bm) W5).setCell (p := ⟨bm, 0, none⟩) (.inl rfl) _
          have hT6 := HT5.out.only hon6 (fun b hb => ⟨by rw [hb]; exact HKb.out, by omega⟩)
          have q6 : W6.heap[bm]? = some (.cells #[.slice A5 N.length cap5] 29 (0, 0)) := by rw [← hW6]; exact blk_set Hq5.out 0 _
          obtain ⟨m6, f6⟩ := one_cell q6
          have hob6 := (hon6.block wr.heap.size (Array.getElem?_eq_some_iff.1 Hob5.out).1 (by omega)).trans Hob5.out
          obtain ⟨o0, o1, o2⟩ := three_cells hob6
          rw [How.out] at o0
          have HW6 := hide hW6
          simp only [hW6]
          have HLen := hide (fun n => two_len (hT6.drewN n))
          have kk1 : ((0 : Int) != (0 : Int)) = false := by simp
          have kk2 : (ev != ev) = false := by simp
          have kk3 : ((N.length : Int) != (N.length : Int)) = false := by simp
          clear hW6 hon6 hT6 q6 hob6 m5 f5
          go_quiet ((go_at_call 32; exact quiet_of_left (HLen.out _)))
          go_wp2
          go_roundw
          case measure => simp [intOf]; omega
          case rel => exact ⟨k + 1, _, N, made, ca, cb, by go_num, by omega, run_next0 HRr.out Hb3.out HT5.out Hk5.out ⟨nq, by rw [HW6.out]⟩ Htake.out Hs1.out Hs2.out⟩
        · have q5 := (Hk5.out.2 bm HKb.out).trans Hbox3.out
          obtain ⟨m5, f5⟩ := one_cell q5
          have Hq5 := hide q5
          have Hob5 := hide ((Hk5.out.2 wr.heap.size HKo.out).trans Hob3.out)
          clear q5
          go_upto_region 32 with fail
          obtain ⟨W6, hW6⟩ : ∃ W6, W5.setCell ⟨bm, 0, none⟩ (.slice A5 N.length cap5) = W6 := ⟨_, rfl⟩
          have hon6 : Only (fun b => b = bm) W5 W6 := by rw [← hW6]; exact (Only.refl (fun b => b = bm) W5).setCell (p := ⟨bm, 0, none⟩) (.inl rfl) _
          have hT6 := HT5.out.only hon6 (fun b hb => ⟨by rw [hb]; exact HKb.out, by omega⟩)
          have q6 : W6.heap[bm]? = some (.cells #[.slice A5 N.length cap5] 29 (0, 0)) := by rw [← hW6]; exact blk_set Hq5.out 0 _
          obtain ⟨m6, f6⟩ := one_cell q6
          have hob6 := (hon6.block wr.heap.size (Array.getElem?_eq_some_iff.1 Hob5.out).1 (by omega)).trans Hob5.out
          obtain ⟨o0, o1, o2⟩ := three_cells hob6
          rw [How.out] at o0
          have HW6 := hide hW6
          simp only [hW6]
          have HLen := hide (fun n => two_len (hT6.drewN n))
          have kk1 : ((0 : Int) != (0 : Int)) = false := by simp
          have kk2 : (ev != ev) = false := by simp
          have kk3 : ((N.length : Int) != (N.length : Int)) = false := by simp
          clear hW6 hon6 hT6 q6 hob6 m5 f5
          go_quiet ((go_at_call 32; exact quiet_of_left (HLen.out _)))
          go_wp2
          go_roundw
          case measure => simp [intOf]; omega
          case rel => exact ⟨k + 1, _, N, made, ca, cb, by go_num, by omega, run_next0 HRr.out Hb3.out HT5.out Hk5.out ⟨nq, by rw [HW6.out]⟩ Htake.out Hs1.out Hs2.out⟩
      · have How := hide ow
        have x1 : (o.what == 1) = false := by simp; omega
        have x2 : (o.what == 2) = false := by simp; omega
        have x3 : (o.what == 3) = false := by simp; omega
        have x4 : (o.what == 4) = false := by simp; omega
        have x5 : (o.what == 5) = false := by simp; omega
        clear ow
        go_wp2
        go_roundw
        case measure => simp [intOf]; omega
        case rel => exact ⟨k + 1, _, N, made, c, c', by go_num, by omega, run_skip HRr.out Hb3.out Htake.out How.out⟩
    · obtain rfl : k = ops.length := by omega
      obtain ⟨Av, vcap, hv⟩ := R.two.facts.2.2.2.2
      subst hv
      obtain ⟨B, mcap, rfl, hmade, hmb⟩ := nats_of_own R.row
      obtain ⟨m0, f0⟩ := one_cell R.box
      obtain ⟨m1, f1⟩ := one_cell R.res
      have HRr := hide R; have Hmade := hide hmade
      have hne : bm ≠ w.heap.size := by omega
      have hne2 : w.heap.size ≠ bm := by omega
      clear R hmade hmb
      go_wp2
      go_region
      all_goals
        go_wp2
        have hz5 := blk_set HRr.out.res 0 (.slice Av N.length vcap)
        obtain ⟨W5, hW5⟩ : ∃ W5, (wr.setCell ⟨w.heap.size, 0, none⟩ (.slice Av N.length vcap)).drew = W5 := ⟨_, rfl⟩
        have hpost : RunPost w ops (.returned (.tuple #[.pointer (some ⟨w.heap.size + 1, 0, none⟩), .agg #[.slice Av N.length vcap], .slice B made.length mcap, .bool true])) W5 := by
          have hon : Only (fun b => b = w.heap.size) wr W5 := by rw [← hW5]; exact ((Only.refl (fun b => b = w.heap.size) wr).setCell (p := ⟨w.heap.size, 0, none⟩) (.inl rfl) _).drew
          have hr := HRr.out.runs
          have hr' := HRr.out.runs'
          rw [List.take_of_length_le (Nat.le_refl _)] at hr hr'
          refine ⟨_, _, B, mcap, N, made, c, c', rfl, hr, hr', (HRr.out.two.only hon (fun b hb => ⟨.inl hb, by omega⟩)).less (fun b hb => ?_), Ints.only Hmade.out hon (fun a ha e => ?_)⟩
          · obtain ⟨x, rfl, rfl⟩ := hb
            exact .inr (.inr rfl)
          · have := own_blk HRr.out.row HRr.out.res (by decide)
            rw [ha] at this
            exact this (by rw [← e]; rfl)
        have k5 : W5.heap[w.heap.size]? = some (.cells #[.slice Av N.length vcap] 29 (0, 0)) := by rw [← hW5]; exact hz5
        obtain ⟨k0, -⟩ := one_cell k5
        simp only [hW5]
        clear hW5 hz5 k5 m0 m1 f0 f1
        exact bodyPost_ret (v := .tuple #[.pointer (some ⟨w.heap.size + 1, 0, none⟩), .agg #[.slice Av N.length vcap], .slice B made.length mcap, .bool true]) (by simp [results, Try.results12, go_sem, k0]) rfl hpost
end Go.Proofs.Ytafpbdmggnfdnaa
