/- Part 22 of the proof of UnifyCopies: what follows was kept as these texts: RefBuilt. -/
import Derived.Test.YtafpbdmggnfdnaaUnifyCopiesPt1
import Derived.Test.YtafpbdmggnfdnaaUnifyCopiesPt2
import Derived.Test.YtafpbdmggnfdnaaUnifyCopiesPt3
import Derived.Test.YtafpbdmggnfdnaaUnifyCopiesPt4
import Derived.Test.YtafpbdmggnfdnaaUnifyCopiesPt5
import Derived.Test.YtafpbdmggnfdnaaUnifyCopiesPt6
import Derived.Test.YtafpbdmggnfdnaaUnifyCopiesPt7
import Derived.Test.YtafpbdmggnfdnaaUnifyCopiesPt8
import Derived.Test.YtafpbdmggnfdnaaUnifyCopiesPt9
import Derived.Test.YtafpbdmggnfdnaaUnifyCopiesPt10
import Derived.Test.YtafpbdmggnfdnaaUnifyCopiesPt11
import Derived.Test.YtafpbdmggnfdnaaUnifyCopiesPt12
import Derived.Test.YtafpbdmggnfdnaaUnifyCopiesPt13
import Derived.Test.YtafpbdmggnfdnaaUnifyCopiesPt14
import Derived.Test.YtafpbdmggnfdnaaUnifyCopiesPt15
import Derived.Test.YtafpbdmggnfdnaaUnifyCopiesPt16
import Derived.Test.YtafpbdmggnfdnaaUnifyCopiesPt17
import Derived.Test.YtafpbdmggnfdnaaUnifyCopiesPt18
import Derived.Test.YtafpbdmggnfdnaaUnifyCopiesPt19
import Derived.Test.YtafpbdmggnfdnaaUnifyCopiesPt20
import Derived.Test.YtafpbdmggnfdnaaUnifyCopiesPt21
import Derived.Deep.CutRange
import Derived.Deep.QuietTactic
import Derived.BigQuiet
/- The reference's store: built. -/
namespace Go.Proofs.Ytafpbdmggnfdnaa
open Go.RowKit
set_option linter.unusedVariables false

def RAddAt (w : World) (M : Nat → Prop) (N : List Nd) (c : Nat → Nat) (p : Nd) (e : Ending) (w' : World) : Prop :=
  ∃ v', e = .returned (.tuple #[.agg #[v'], .int .i64 (N.length : Int)]) ∧ RLive (more M w w') v' (N ++ [p]) (addC N.length c) w' ∧ Only M w w'
theorem rlive_add {M : Nat → Prop} {v : Value} {N : List Nd} {c : Nat → Nat} {w : World} (h : RLive M v N c w) (p : Nd) (l : Int) (A : Option Addr) (cap : Nat) (hA : Nats w A p.args) (hm : N.length + 1 ≤ 1000000) (hpa : p.args.length ≤ 1000000) (hargs : ∀ y ∈ p.args, y < N.length) (hk : p.kind = 1 → p.args = []) :
    Calls Try.prog 56 #[.agg #[v], .agg #[.int .i64 p.kind, .string p.name, .slice A p.args.length cap, .int .i64 l]] w (RAddAt w M N c p) := by
  obtain ⟨⟨ad, R, d, h2, rfl, h4, h5, h6⟩, h7⟩ := h
  refine (radd_any h2 p l A cap hA hm hpa).mono ?_
  rintro e w' ⟨v', rfl, hp⟩
  obtain ⟨k1, k2⟩ := hp.live h7 h5 h6 h4 hargs hk
  exact ⟨v', rfl, k1, k2⟩
theorem Fo.takeF_cnt (a : Fo) : ∀ j, (a.takeF j).cnt ≤ a.cnt := by
  induction a with
  | nil => intro j; cases j <;> simp [Fo.takeF, Fo.cnt]
  | var n r ih =>
    intro j
    cases j with
    | zero => simp [Fo.takeF, Fo.cnt]
    | succ j => have := ih j; simp only [Fo.takeF, Fo.cnt]; omega
  | con k m x r _ ih =>
    intro j
    cases j with
    | zero => simp [Fo.takeF, Fo.cnt]
    | succ j => have := ih j; simp only [Fo.takeF, Fo.cnt]; omega
theorem idxOf_first {l : List Nat} {m i : Nat} (hi : i < l.length) (he : l[i] = m) (hn : m ∉ l.take i) : l.idxOf m = i := by
  have h1 : l = l.take i ++ l[i] :: l.drop (i + 1) := by rw [List.getElem_cons_drop, List.take_append_drop]
  rw [h1, List.idxOf_append, if_neg hn, he, List.idxOf_cons_self, List.length_take]; omega
structure BuPre (σ : Nat → Nat) (P : Nat → Prop) (Am : Option Addr) (met : List Nat) (At : Option Addr) (tos : List Nat) (T : Fo) (v : Value) (N : List Nd) (c : Nat → Nat) (M : Nat → Prop) (w : World) : Prop where
  live : RLive M v N c w
  proper : T.Proper
  cnt : T.cnt ≤ 1000000
  pb : ∀ b, P b → b < w.heap.size ∧ ¬ M b
  ma : Nats w Am met
  mlen : met.length ≤ 1000000
  ta : Nats w At tos
  tlen : tos.length = met.length
  mb : ∀ x, Am = some x → x.block < w.heap.size ∧ ¬ M x.block
  tb : ∀ x, At = some x → x.block < w.heap.size ∧ ¬ M x.block
  sub : ∀ u ∈ T.vars, u ∈ met
  tos : ∀ u ∈ met, par tos (met.idxOf u) < N.length ∧ TreeOf N c [par tos (met.idxOf u)] (.var (σ u) .nil)
  few : N.length + T.cnt ≤ 1000000
def BuPost (w : World) (M : Nat → Prop) (N : List Nd) (c σ : Nat → Nat) (T : Fo) (e : Ending) (w' : World) : Prop :=
  ∃ (v' : Value) (a : Nat) (N' : List Nd) (c' : Nat → Nat), e = .returned (.tuple #[.agg #[v'], .int .i64 (a : Int)]) ∧ RLive (more M w w') v' N' c' w' ∧ Grown N c N' c' ∧ N'.length ≤ N.length + T.cnt ∧ a < N'.length ∧ TreeOf N' c' [a] (T.mapv σ) ∧ Only M w w'
/-- What a call for an argument leaves, with a box for the store. -/
structure BuNew (wr : World) (Mi : Nat → Prop) (Ni : List Nd) (ci σ : Nat → Nat) (B : Fo) (bx : Nat) (v3 : Value) (a3 : Nat) (N3 : List Nd) (c3 : Nat → Nat) (M3 : Nat → Prop) (wx : World) : Prop where
  live : RLive M3 v3 N3 c3 wx
  grown : Grown Ni ci N3 c3
  len : N3.length ≤ Ni.length + B.cnt
  lt : a3 < N3.length
  tree : TreeOf N3 c3 [a3] (B.mapv σ)
  only : Only Mi wr wx
  m3 : ∀ b, M3 b → Mi b ∨ (wr.heap.size ≤ b ∧ b < wx.heap.size)
  le : wr.heap.size ≤ bx
  box : wx.heap[bx]? = some (.cells #[v3] 29 (0, 0))
  nbx : ¬ M3 bx
theorem buNew_a {wr w3 : World} {Mi : Nat → Prop} {Ni N3 : List Nd} {ci c3 σ : Nat → Nat} {B : Fo} {v3 : Value} {a3 : Nat} (hl : RLive (more Mi wr.drew w3) v3 N3 c3 w3) (hg : Grown Ni ci N3 c3) (hn : N3.length ≤ Ni.length + B.cnt) (ha : a3 < N3.length) (ht : TreeOf N3 c3 [a3] (B.mapv σ)) (ho : Only Mi wr.drew w3) :
    BuNew wr Mi Ni ci σ B w3.heap.size v3 a3 N3 c3 (more Mi wr.drew w3) (w3.alloc (.cells #[v3] 29)) := by
  have hz : wr.heap.size ≤ w3.heap.size := ho.size
  refine ⟨hl.below ((Below.refl _ _).alloc (Nat.le_refl _) _), hg, hn, ha, ht, ((Only.refl _ _).drew.trans ho).alloc _, fun b hb => ?_, hz, heap_alloc_new w3 _, fun hb => ?_⟩
  · rcases hb with hb | hb
    · exact .inl hb
    · have h1 : wr.heap.size ≤ b := hb.1
      exact .inr (by simp; omega)
  · have := hl.lt _ hb; omega
theorem buNew_b {wr w3 : World} {Mi : Nat → Prop} {vi : Value} {Ni N3 : List Nd} {ci c3 σ : Nat → Nat} {B : Fo} {v3 u0 : Value} {a3 : Nat} (h0 : RLive Mi vi Ni ci wr) (hl : RLive (more Mi (wr.alloc (.cells #[u0] 29)).drew w3) v3 N3 c3 w3) (hg : Grown Ni ci N3 c3) (hn : N3.length ≤ Ni.length + B.cnt) (ha : a3 < N3.length) (ht : TreeOf N3 c3 [a3] (B.mapv σ)) (ho : Only Mi (wr.alloc (.cells #[u0] 29)).drew w3) :
    BuNew wr Mi Ni ci σ B wr.heap.size v3 a3 N3 c3 (more Mi (wr.alloc (.cells #[u0] 29)).drew w3) (w3.setCell ⟨wr.heap.size, 0, none⟩ v3) := by
  have hz : wr.heap.size + 1 ≤ w3.heap.size := by have := ho.size; simpa using this
  have hz2 : (w3.setCell ⟨wr.heap.size, 0, none⟩ v3).heap.size = w3.heap.size := by simp [World.setCell]
  have hnb : ¬ more Mi (wr.alloc (.cells #[u0] 29)).drew w3 wr.heap.size := by
    rintro (hb | hb)
    · have := h0.lt _ hb; omega
    · have h1 : (wr.alloc (.cells #[u0] 29)).drew.heap.size = wr.heap.size + 1 := by simp
      omega
  have hon : Only (fun b => b = wr.heap.size) w3 (w3.setCell ⟨wr.heap.size, 0, none⟩ v3) := (Only.refl (fun b => b = wr.heap.size) w3).setCell (p := ⟨wr.heap.size, 0, none⟩) (.inl rfl) v3
  have hbx : w3.heap[wr.heap.size]? = some (.cells #[u0] 29 (0, 0)) := (ho.block wr.heap.size (by simp) (fun hb => by have := h0.lt _ hb; omega)).trans (heap_alloc_new wr _)
  refine ⟨hl.keep hon (fun b hb => by subst hb; exact hnb), hg, hn, ha, ht, ?_, fun b hb => ?_, Nat.le_refl _, blk_set hbx 0 v3, hnb⟩
  · have h1 : Only Mi wr w3 := ((Only.refl Mi wr).alloc _).drew.trans ho
    exact h1.then_ hon (fun b hb hl => by omega)
  · rcases hb with hb | hb
    · exact .inl hb
    · have h1 : (wr.alloc (.cells #[u0] 29)).drew.heap.size = wr.heap.size + 1 := by simp
      exact .inr (by rw [hz2]; omega)
/-- At the head of a round over the arguments. -/
structure BuSt (W0 : World) (bs : Nat) (M : Nat → Prop) (N : List Nd) (c σ : Nat → Nat) (a : Fo) (i : Nat) (va : Value) (wr : World) (vi : Value) (Mi : Nat → Prop) (Ni : List Nd) (ci : Nat → Nat) (ys : List Nat) : Prop where
  live : RLive Mi vi Ni ci wr
  box : wr.heap[bs]? = some (.cells #[vi] 29 (0, 0))
  grown : Grown N c Ni ci
  mi : ∀ b, Mi b → M b ∨ (W0.heap.size ≤ b ∧ b < wr.heap.size)
  only : Only (fun b => M b ∨ b = bs) W0 wr
  row : wr.ownsRow W0.heap.size 3 1 va ys.length (nats ys)
  apart : ∀ b, va.ownBlock = some b → ¬ Mi b
  yok : ∀ y ∈ ys, y < Ni.length
  tree : TreeOf Ni ci ys ((a.takeF i).mapv σ)
  len : Ni.length ≤ N.length + (a.takeF i).cnt
theorem buSt_next {W0 wr wx W6 : World} {bs bx i a3 : Nat} {M Mi M3 : Nat → Prop} {N Ni N3 : List Nd} {c ci c3 σ : Nat → Nat} {a : Fo} {va va' vi v3 : Value} {ys : List Nat} (h : BuSt W0 bs M N c σ a i va wr vi Mi Ni ci ys) (hbs : bs < W0.heap.size) (hnM : ¬ M bs) (hi : i < a.len) (k : BuNew wr Mi Ni ci σ (a.nth i) bx v3 a3 N3 c3 M3 wx) {o : Obj}
    (hg : ((wx.setCell ⟨bs, 0, none⟩ v3).alloc o).grownBy W6 va.ownBlock) (hown : W6.ownsRow W0.heap.size 3 1 va' (ys.length + 1) (nats ys ++ [.int .i64 (a3 : Int)])) (hat : va'.ownBlock = va.ownBlock ∨ va'.ownBlock = some ((wx.setCell ⟨bs, 0, none⟩ v3).alloc o).heap.size) :
    BuSt W0 bs M N c σ a (i + 1) va' W6 v3 M3 N3 c3 (ys ++ [a3]) := by
  have z1 := h.only.size; have z2 := k.only.size; have z6 := hg.size
  have zs : (wx.setCell ⟨bs, 0, none⟩ v3).heap.size = wx.heap.size := by simp [World.setCell]
  rw [World.size_alloc, zs] at z6 hat
  have hva := h.row.lt
  have hbM3 : ¬ M3 bs := fun hb => by
    rcases k.m3 bs hb with h1 | h1
    · rcases h.mi bs h1 with h2 | h2
      · exact hnM h2
      · omega
    · omega
  have hvM3 : ∀ b, va.ownBlock = some b → ¬ M3 b := fun b hb h1 => by
    rcases k.m3 b h1 with h2 | h2
    · exact h.apart b hb h2
    · have := (hva b hb).2; omega
  have hon1 : Only (fun b => b = bs) wx (wx.setCell ⟨bs, 0, none⟩ v3) := (Only.refl (fun b => b = bs) wx).setCell (p := ⟨bs, 0, none⟩) (.inl rfl) v3
  have hon2 : Only (fun b => b = bs ∨ va.ownBlock = some b) wx W6 := ((hon1.mono (fun b _ e => .inl e)).alloc o).grown hg (fun b hb => .inl (.inr hb))
  have hvbs : va.ownBlock ≠ some bs := fun e => by have := (hva bs e).1; omega
  have hbx : wx.heap[bs]? = some (.cells #[vi] 29 (0, 0)) := (k.only.block bs (by omega) (fun hb => by
    rcases h.mi bs hb with h2 | h2
    · exact hnM h2
    · omega)).trans h.box
  refine ⟨k.live.keep hon2 (fun b hb => ?_), ?_, h.grown.trans k.grown, fun b hb => ?_, ?_, ?_, fun b hb => ?_, fun y hy => ?_, ?_, ?_⟩
  · rcases hb with hb | hb
    · rw [hb]; exact hbM3
    · exact hvM3 b hb
  · exact (far_block hg (by rw [zs]; omega) hvbs).trans (blk_set hbx 0 v3)
  · have hz := hon2.size
    rcases k.m3 b hb with h1 | h1
    · rcases h.mi b h1 with h2 | h2
      · exact .inl h2
      · exact .inr (by omega)
    · exact .inr (by omega)
  · have k1 : Only (fun b => M b ∨ b = bs) W0 wx := h.only.then_ k.only (fun b hb hl => by
      rcases h.mi b hb with h2 | h2
      · exact .inl h2
      · omega)
    exact k1.then_ hon2 (fun b hb hl => by
      rcases hb with hb | hb
      · exact .inr hb
      · have := (hva b hb).1; omega)
  · rw [List.length_append]
    have e : nats (ys ++ [a3]) = nats ys ++ [.int .i64 (a3 : Int)] := nats_snoc ys a3
    rw [e]; exact hown
  · rcases hat with e | e
    · exact hvM3 b (by rw [← e]; exact hb)
    · rw [e] at hb; injection hb with hb
      intro h1; have := k.live.lt b h1; omega
  · rcases List.mem_append.1 hy with hy | hy
    · exact Nat.lt_of_lt_of_le (h.yok y hy) k.grown.len
    · simp at hy; subst hy; exact k.lt
  · rw [a.takeF_succ i hi, Fo.mapv_app]
    exact (h.tree.grown h.live.cls k.grown h.yok).app k.live.cls (fun z hz => Nat.lt_of_lt_of_le (h.yok z hz) k.grown.len) (by simpa using k.lt) k.tree
  · have h1 := h.len; have h2 := k.len
    rw [a.takeF_succ i hi, Fo.cnt_app]; omega
set_option maxRecDepth 100000 in
set_option maxHeartbeats 8000000 in
theorem rbuilt_any (σ : Nat → Nat) (P : Nat → Prop) (Am : Option Addr) (mc : Nat) (met : List Nat) (At : Option Addr) (tc : Nat) (tos : List Nat) (k : Nat) : ∀ (T : Fo) (v : Value) (N : List Nd) (c : Nat → Nat) (M : Nat → Prop) (w : World) (kd nu : Int) (s : ByteArray) (A : Option Addr) (n cc : Nat), T.cnt ≤ k → BuPre σ P Am met At tos T v N c M w → FoCells w P T (tyCells kd nu s A n cc) →
    Calls Try.prog 54 #[.agg #[v], .agg #[.int .i64 kd, .int .i64 nu, .string s, .slice A n cc], .slice Am met.length mc, .slice At tos.length tc] w (BuPost w M N c σ T) := by
  induction k with
  | zero =>
    intro T v N c M w kd nu s A n cc hk hp h1
    rcases h1.parts with ⟨m, rfl, _⟩ | ⟨a, rfl, _⟩ <;> simp [Fo.cnt] at hk
  | succ k ih =>
    intro T v N c M w kd nu s A n cc hk hp h1
    obtain ⟨A0, cap0, hv0⟩ := hp.live.slice
    subst hv0
    obtain ⟨W0, hW0⟩ : ∃ W0, ((w.alloc (.cells #[.slice A0 N.length cap0] 29)).alloc (.cells #[.int .i64 kd, .int .i64 nu, .string s, .slice A n cc] 48)).alloc (.cells #[.slice none 0 0] 29) = W0 := ⟨_, rfl⟩
    have hbw : Below w.heap.size w W0 := by rw [← hW0]; exact (((Below.refl _ _).alloc (Nat.le_refl _) _).alloc (by simp) _).alloc (by simp <;> omega) _
    have hz0 : W0.heap.size = w.heap.size + 3 := by rw [← hW0]; simp
    have hb0 : W0.heap[w.heap.size]? = some (.cells #[.slice A0 N.length cap0] 29 (0, 0)) := by
      rw [← hW0, Below.heap_alloc _ _ _ (by simp <;> omega), Below.heap_alloc _ _ _ (by simp)]; exact heap_alloc_new w _
    have hb1 : W0.heap[w.heap.size + 1]? = some (.cells #[.int .i64 kd, .int .i64 nu, .string s, .slice A n cc] 48 (0, 0)) := by
      rw [← hW0, Below.heap_alloc _ _ _ (by simp)]
      have := heap_alloc_new (w.alloc (.cells #[.slice A0 N.length cap0] 29)) (.cells #[.int .i64 kd, .int .i64 nu, .string s, .slice A n cc] 48)
      rwa [World.size_alloc] at this
    have hb2 : W0.heap[w.heap.size + 2]? = some (.cells #[.slice none 0 0] 29 (0, 0)) := by
      rw [← hW0]
      have := heap_alloc_new ((w.alloc (.cells #[.slice A0 N.length cap0] 29)).alloc (.cells #[.int .i64 kd, .int .i64 nu, .string s, .slice A n cc] 48)) (.cells #[.slice none 0 0] 29)
      simp only [World.size_alloc] at this; exact this
    have HW0 := hide hW0; have Hbw := hide hbw; have Hb0 := hide hb0; have Hb1 := hide hb1; have Hb2 := hide hb2; have Hp := hide hp; have IH := hide ih
    have hz1 : w.heap.size + 3 ≤ W0.heap.size := by omega
    have hz2 : W0.heap.size ≤ w.heap.size + 3 := by omega
    have hml := hp.mlen
    have hMb : ∀ b, w.heap.size ≤ b → ¬ M b := fun b hb hm => by have := hp.live.lt b hm; omega
    have HMb := hide hMb
    clear hW0 hbw hz0 hb0 hb1 hb2 ih hp hMb
    rcases h1.parts with ⟨m, rfl, rfl, rfl, rfl, rfl⟩ | ⟨a, rfl, rfl, rfl, ha⟩
    · have hmm : m ∈ met := Hp.out.sub m (by simp [Fo.vars])
      have Hmm := hide hmm
      clear hmm h1 IH hk
      obtain ⟨x0, x1, -, -, -⟩ := four_cells Hb1.out
      go_enter Try.func54, Try.ntmps54
      go_upto_region 1 with fail
      simp only [HW0.out]
      go_wp2
      go_loopw [10] (fun vi wr => ∃ i q : Nat, vi = .int .i64 i ∧ i ≤ met.length ∧ wr = W0.drewN q ∧ Hid (m ∉ met.take i)) (fun vi _ => met.length - (intOf vi).toNat)
      case atStart => exact ⟨0, 0, rfl, by omega, rfl, hide (by simp)⟩
      case round =>
        obtain ⟨i, q, rfl, hi, rfl, HNi⟩ := hrel
        by_cases hlt : i < met.length
        · obtain ⟨bm, om, hAm, hbm, d0⟩ := Hp.out.ma.at_ i (by simpa [cast] using hlt)
          obtain ⟨bt, ot, hAt, hbt, d1⟩ := Hp.out.ta.at_ i (by simpa [cast, Hp.out.tlen] using hlt)
          simp only [cast, List.getElem_map] at d0 d1
          obtain ⟨y, hy⟩ : ∃ y, met[i] = y := ⟨_, rfl⟩
          obtain ⟨z, hz⟩ : ∃ z, tos[i]'(by rw [Hp.out.tlen]; exact hlt) = z := ⟨_, rfl⟩
          rw [hy] at d0
          rw [hz] at d1
          have e0 : (W0.drewN q).cell? ⟨bm, om + i, none⟩ = some (.int .i64 (y : Int)) := (Hbw.out.cell (p := ⟨bm, om + i, none⟩) hbm).trans d0
          have e1 : (W0.drewN q).cell? ⟨bt, ot + i, none⟩ = some (.int .i64 (z : Int)) := (Hbw.out.cell (p := ⟨bt, ot + i, none⟩) hbt).trans d1
          have x1' : (W0.drewN q).cell? ⟨w.heap.size + 1, 1, none⟩ = some (.int .i64 (m : Int)) := x1
          obtain ⟨b0, f0⟩ := one_cell (show (W0.drewN q).heap[w.heap.size]? = _ from Hb0.out)
          have b2 := show (W0.drewN q).heap[w.heap.size + 2]? = _ from Hb2.out
          obtain ⟨c2, f2⟩ := one_cell b2
          have Hb2q := hide b2
          have Hbq := hide (below_drewN Hbw.out q)
          obtain ⟨W1, hW1⟩ : ∃ W1, W0.drewN q = W1 := ⟨_, rfl⟩
          rw [hW1] at e0 e1 x1' b0 f0 c2 f2 Hb2q Hbq
          simp only [hW1]
          have HW1 := hide hW1
          have Hy := hide hy; have Hz := hide hz; have HAm := hide hAm; have HAt := hide hAt
          have j1 : (i : Int) < (met.length : Int) := by omega
          have j2 : (0 : Int) ≤ (i : Int) := by omega
          have j3 : (i : Int) < (tos.length : Int) := by rw [Hp.out.tlen]; exact j1
          rw [hAm, hAt]
          clear hW1 hy hz hAm hAt d0 d1 b2
          by_cases hym : y = m
          · subst hym
            have jj : ((y : Int) == (y : Int)) = true := by simp
            go_wp2
            go_quiet (fail)
            go_upto_region 6 with fail
            obtain ⟨W2, hW2⟩ : ∃ W2, W1.drewN nq = W2 := ⟨_, rfl⟩
            have b0 : W2.cell? ⟨w.heap.size, 0, none⟩ = some (.slice A0 N.length cap0) := by rw [← hW2]; exact b0
            have e1 : W2.cell? ⟨bt, ot + i, none⟩ = some (.int .i64 (z : Int)) := by rw [← hW2]; exact e1
            have c2 : W2.cell? ⟨w.heap.size + 1 + 1, 0, none⟩ = some (.slice none 0 0) := by rw [← hW2]; exact c2
            have f2 : W2.frozen? ⟨w.heap.size + 1 + 1, 0, none⟩ = false := by rw [← hW2]; exact f2
            have hb2 : W2.heap[w.heap.size + 2]? = some (.cells #[.slice none 0 0] 29 (0, 0)) := by rw [← hW2]; exact Hb2q.out
            have HB2 := hide (below_drewN Hbq.out nq)
            rw [hW2] at HB2
            have Hb22 := hide hb2
            simp only [hW2]
            clear hW2 hb2
            refine wp_region_noPanic ?_
            refine wp_region_held_drew (S := fun w' => w'.cell? ⟨w.heap.size, 0, none⟩ = some (.slice A0 N.length cap0) ∧ w'.cell? ⟨bt, ot + i, none⟩ = some (.int .i64 (z : Int))) (by kernel_rfl) ⟨b0, e1⟩ (fun hHeld => ?_)
            refine wpAnyH_take (i := 0) (oi := _) (v := ?_) rfl (by kernel_rfl) (by kernel_rfl) (by kernel_rfl) (fun _ _ _ h => h) (Or.inl ⟨by rfl, ?_⟩) hHeld ?_
            rotate_left
            · intro w' hSw
              obtain ⟨hS0, hS1⟩ := hSw
              go_simp
              try (with_reducible rfl)
            try simp only [List.getElem_toArray, List.getElem_cons_zero, List.getElem_cons_succ, Act.put, List.setIfInBounds_toArray, List.set_cons_zero, List.set_cons_succ]
            refine wpAnyH_take (i := 1) (oi := _) (v := ?_) rfl (by kernel_rfl) (by kernel_rfl) (by kernel_rfl) (fun _ _ _ h => h) (Or.inl ⟨by rfl, ?_⟩) hHeld ?_
            rotate_left
            · intro w' hSw
              obtain ⟨hS0, hS1⟩ := hSw
              go_simp
              try (with_reducible rfl)
            try simp only [List.getElem_toArray, List.getElem_cons_zero, List.getElem_cons_succ, Act.put, List.setIfInBounds_toArray, List.set_cons_zero, List.set_cons_succ]
            refine wpAnyH_take (i := 2) (oi := _) (v := ?_) rfl (by kernel_rfl) (by kernel_rfl) (by kernel_rfl) (fun _ _ _ h => h) (Or.inl ⟨by rfl, ?_⟩) hHeld ?_
            rotate_left
            · intro w' hSw
              obtain ⟨hS0, hS1⟩ := hSw
              go_simp
              try (with_reducible rfl)
            try simp only [List.getElem_toArray, List.getElem_cons_zero, List.getElem_cons_succ, Act.put, List.setIfInBounds_toArray, List.set_cons_zero, List.set_cons_succ]
            refine wpAnyH_take (i := 3) (oi := _) (v := ?_) rfl (by kernel_rfl) (by kernel_rfl) (by kernel_rfl) (fun _ _ _ h => h) (Or.inl ⟨by rfl, ?_⟩) hHeld ?_
            rotate_left
            · intro w' hSw
              obtain ⟨hS0, hS1⟩ := hSw
              go_simp
              try (with_reducible rfl)
            try simp only [List.getElem_toArray, List.getElem_cons_zero, List.getElem_cons_succ, Act.put, List.setIfInBounds_toArray, List.set_cons_zero, List.set_cons_succ]
            refine wpAnyH_take (i := 4) (oi := _) (v := ?_) rfl (by kernel_rfl) (by kernel_rfl) (by kernel_rfl) (fun _ _ _ h => h) (Or.inl ⟨by rfl, ?_⟩) hHeld ?_
            rotate_left
            · intro w' hSw
              obtain ⟨hS0, hS1⟩ := hSw
              go_simp
              try (with_reducible rfl)
            try simp only [List.getElem_toArray, List.getElem_cons_zero, List.getElem_cons_succ, Act.put, List.setIfInBounds_toArray, List.set_cons_zero, List.set_cons_succ]
            refine wpAnyH_ready (rs := [5]) (by kernel_rfl) (by simp) ?_
            refine AllReadyH.cons (o := _) rfl (fun K hK => ?_) AllReadyH.nil
            go_simp
            clear hHeld
            have t0 := (World.cell?_setCell_far W2.drew ⟨w.heap.size + 2, 0, none⟩ ⟨w.heap.size, 0, none⟩ (.slice A0 N.length cap0) (by simp only; omega)).trans b0
            have t1 := (World.cell?_setCell_far W2.drew ⟨w.heap.size + 2, 0, none⟩ ⟨bt, ot + i, none⟩ (.slice A0 N.length cap0) (by simp only; omega)).trans e1
            refine hK.out _ _ ⟨t0, t1⟩ (fun hHeld => ?_)
            clear hK K
            try simp only [List.getElem_toArray, List.getElem_cons_zero, List.getElem_cons_succ, Act.put, List.setIfInBounds_toArray, List.set_cons_zero, List.set_cons_succ]
            refine wpAnyH_ready (rs := [6]) (by kernel_rfl) (by simp) ?_
            refine AllReadyH.cons (o := _) rfl (fun K hK => ?_) AllReadyH.nil
            go_simp
            refine hK.out _ _ ⟨t0, t1⟩ (fun hHeld => ?_)
            clear hK K
            try simp only [List.getElem_toArray, List.getElem_cons_zero, List.getElem_cons_succ, Act.put, List.setIfInBounds_toArray, List.set_cons_zero, List.set_cons_succ]
            refine wpAnyH_done (by kernel_rfl) ?_ _
            refine NoPanic.normal ?_
            clear hHeld
            have hidx : met.idxOf y = i := idxOf_first hlt Hy.out HNi.out
            have hpz : par tos (met.idxOf y) = z := by rw [hidx, ← par_at (by rw [Hp.out.tlen]; exact hlt)]; exact Hz.out
            have htz := Hp.out.tos y Hmm.out
            rw [hpz] at htz
            have hbf : Below w.heap.size w (W2.drew.setCell ⟨w.heap.size + 2, 0, none⟩ (.slice A0 N.length cap0)) := (HB2.out.drew).setCell (p := ⟨w.heap.size + 2, 0, none⟩) (by simp) _
            have k0 := (one_cell (blk_set (show W2.drew.heap[w.heap.size + 2]? = some (.cells #[.slice none 0 0] 29 (0, 0)) from Hb22.out) 0 (.slice A0 N.length cap0))).1
            have hpost : BuPost w M N c σ (.var y .nil) (.returned (.tuple #[.agg #[.slice A0 N.length cap0], .int .i64 (z : Int)])) (W2.drew.setCell ⟨w.heap.size + 2, 0, none⟩ (.slice A0 N.length cap0)) :=
              ⟨_, z, N, c, rfl, Hp.out.live.more hbf, Grown.refl _ _, by omega, htz.1, htz.2, Only.of_below hbf _⟩
            have Hpost := hide hpost
            clear hidx hpz htz hbf hpost b0 e1 c2 f2 t0 t1
            obtain ⟨W9, hW9⟩ : ∃ W9, W2.drew.setCell ⟨w.heap.size + 2, 0, none⟩ (.slice A0 N.length cap0) = W9 := ⟨_, rfl⟩
            rw [hW9] at k0 Hpost
            have k0 : W9.cell? ⟨w.heap.size + 1 + 1, 0, none⟩ = some (.slice A0 N.length cap0) := k0
            go_wp2
            change bodyPost _ _ _ _ _ (W2.drew.setCell ⟨w.heap.size + 2, 0, none⟩ (.slice A0 N.length cap0))
            rw [hW9]
            exact bodyPost_ret (v := .tuple #[.agg #[.slice A0 N.length cap0], .int .i64 (z : Int)]) (by simp [results, Try.results54, go_sem, k0]) rfl Hpost.out
          · have jj : ((y : Int) == (m : Int)) = false := by simp; omega
            go_wp2
            go_quiet (fail)
            go_wp2
            go_roundw
            case measure => simp [intOf]; omega
            case rel =>
              refine ⟨i + 1, q + nq, by go_num, by omega, by rw [← HW1.out]; simp [World.drewN, Nat.add_assoc], hide ?_⟩
              rw [List.take_succ_eq_append_getElem hlt, Hy.out, List.mem_append]
              rintro (h | h)
              · exact HNi.out h
              · simp at h; exact hym h.symm
        · obtain rfl : i = met.length := by omega
          have h9 := HNi.out
          rw [List.take_of_length_le (Nat.le_refl _)] at h9
          exact absurd Hmm.out h9
    · have Ha := hide ha
      have hak : a.cnt ≤ k := by simp only [Fo.cnt] at hk; omega
      have hacn : a.cnt + 1 ≤ 1000000 := by have := Hp.out.cnt; simp only [Fo.cnt] at this; omega
      have hal : a.len ≤ 1000000 := by have := a.len_le; omega
      have kk : (kd == 1) = false := by have := Hp.out.proper.1; simpa using this
      have hfew : N.length + (a.cnt + 1) ≤ 1000000 := by have := Hp.out.few; simp only [Fo.cnt] at this; omega
      have Hpr := hide Hp.out.proper.2.1
      have Hsub : Hid (∀ u ∈ a.vars, u ∈ met) := hide (fun u hu => Hp.out.sub u (by simp [Fo.vars, hu]))
      obtain ⟨i1, ki, kz0, kz1, kz2⟩ := info_parts intInfo
      have Ki := hide ki; have Kz0 := hide kz0; have Kz1 := hide kz1; have Kz2 := hide kz2
      obtain ⟨x0, -, -, x3, -⟩ := four_cells Hb1.out
      clear h1 ha hk ki kz0 kz1 kz2
      go_enter Try.func54, Try.ntmps54
      go_upto_region 1 with fail
      simp only [HW0.out]
      go_upto_region 8 with fail
      obtain ⟨W2, hW2⟩ : ∃ W2, W0.alloc (.cells #[] 3) = W2 := ⟨_, rfl⟩
      have hb02 : Below W0.heap.size W0 W2 := by rw [← hW2]; exact (Below.refl _ _).alloc (Nat.le_refl _) _
      have HR0 : Hid (∃ (vi : Value) (Mi : Nat → Prop) (Ni : List Nd) (ci : Nat → Nat) (ys : List Nat), ys.length = 0 ∧ BuSt W0 w.heap.size M N c σ a 0 (.slice (some ⟨W0.heap.size, 0, none⟩) 0 0) W2 vi Mi Ni ci ys) := by
        refine hide ⟨_, M, N, c, [], rfl, Hp.out.live.below (Hbw.out.trans (hb02.mono Hbw.out.size)), (hb02.block _ (by omega)).trans Hb0.out, Grown.refl _ _, fun b hb => .inl hb, Only.of_below hb02 _, ?_, fun b hb hm => ?_, fun y hy => by simp at hy, ?_, by rw [Fo.takeF_zero]; simp [Fo.cnt]⟩
        · rw [← hW2]
          exact World.ownsRow_made (base := W0.heap.size) (e := 3) (size := 1) W0 #[] 0 (Nat.le_refl _) (Nat.zero_le _) rfl
        · have : W0.heap.size = b := by simpa [Value.ownBlock] using hb
          exact HMb.out b (by omega) hm
        · rw [Fo.takeF_zero]; exact TreeOf.nil Hp.out.live.cls
      simp only [hW2]
      clear hW2 hb02 x0 x3
      go_wp2
      go_loopw [11, 12] (fun va vi wr => ∃ i : Nat, vi = .int .i64 i ∧ i ≤ a.len ∧ Hid (∃ (v1 : Value) (Mi : Nat → Prop) (Ni : List Nd) (ci : Nat → Nat) (ys : List Nat), ys.length = i ∧ BuSt W0 w.heap.size M N c σ a i va wr v1 Mi Ni ci ys)) (fun _ vi _ => a.len - (intOf vi).toNat)
      case atStart => exact ⟨0, rfl, by omega, HR0⟩
      case round =>
        obtain ⟨i, rfl, hi, HRr⟩ := hrel
        clear HR0
        obtain ⟨vi, Mi, Ni, ci, ys, hyl, hst⟩ := HRr.out
        obtain ⟨Ai, ci1, hvi⟩ := hst.live.slice
        subst hvi
        have HSt := hide hst
        have hyl1 : ys.length ≤ i := Nat.le_of_eq hyl
        have hyl2 : i ≤ ys.length := Nat.le_of_eq hyl.symm
        have hzr := hst.only.size
        obtain ⟨s0, f0⟩ := one_cell hst.box
        have hb1r := (hst.only.block (w.heap.size + 1) (by omega) (by
          rintro (h | h)
          · exact HMb.out _ (by omega) h
          · omega)).trans Hb1.out
        obtain ⟨y0, -, y2, s1, -⟩ := four_cells hb1r
        have Hb1r := hide hb1r
        clear HRr hst hyl hb1r
        by_cases hlt : i < a.len
        · obtain ⟨b, off, kx, nx, sx, Bx, mx, cx, rfl, hb, p0, p1, p2, p3, hfx⟩ := Ha.out.nth i hlt
          have hbl := (Hp.out.pb b hb).1
          have hPk : ∀ p : Addr, P p.block → wr.cell? p = w.cell? p := fun p hp => (HSt.out.only.cell (p := p) (by have := (Hp.out.pb _ hp).1; omega) (by
            rintro (h | h)
            · exact (Hp.out.pb _ hp).2 h
            · have := (Hp.out.pb _ hp).1; omega)).trans (Hbw.out.cell (Hp.out.pb _ hp).1)
          have s2 := (hPk ⟨b, off + i * 4, none⟩ hb).trans p0
          have s3 := (hPk ⟨b, off + i * 4 + 1, none⟩ hb).trans p1
          have s4 := (hPk ⟨b, off + i * 4 + 2, none⟩ hb).trans p2
          have s5 := (hPk ⟨b, off + i * 4 + 3, none⟩ hb).trans p3
          have hmi : ∀ b2, b2 < W0.heap.size → ¬ M b2 → ¬ Mi b2 := fun b2 h1 h2 h3 => by
            rcases HSt.out.mi b2 h3 with h4 | h4
            · exact h2 h4
            · omega
          have hbk : ∀ b2, b2 < w.heap.size → ¬ M b2 → wr.heap[b2]? = w.heap[b2]? := fun b2 h1 h2 => (HSt.out.only.block b2 (by omega) (by
            rintro (h | h)
            · exact h2 h
            · omega)).trans (Hbw.out.block b2 h1)
          have htf := a.takeF_cnt i
          have hln := HSt.out.len
          have hsum : (a.takeF i).cnt + (a.nth i).cnt ≤ a.cnt := by
            have h1 := a.takeF_cnt (i + 1)
            rw [a.takeF_succ i hlt, Fo.cnt_app] at h1; exact h1
          have HC := hide (fun W (hW : Below wr.heap.size wr W) => IH.out (a.nth i) (.slice Ai Ni.length ci1) Ni ci Mi W kx nx sx Bx mx cx (Nat.le_trans (a.nth_cnt i) hak) ⟨HSt.out.live.below hW, a.nth_proper i Hpr.out, by have := a.nth_cnt i; omega,
            fun b2 hb2 => ⟨by have := (Hp.out.pb b2 hb2).1; have := hW.size; omega, hmi b2 (by have := (Hp.out.pb b2 hb2).1; omega) (Hp.out.pb b2 hb2).2⟩,
            Ints.keep Hp.out.ma (by have := hW.size; omega) (fun a1 p1 ha1 hp1 hl1 => World.cell?_of_block ((hW.block p1.block (by omega)).trans (hbk p1.block hl1 (by rw [hp1]; exact (Hp.out.mb a1 ha1).2)))), Hp.out.mlen,
            Ints.keep Hp.out.ta (by have := hW.size; omega) (fun a1 p1 ha1 hp1 hl1 => World.cell?_of_block ((hW.block p1.block (by omega)).trans (hbk p1.block hl1 (by rw [hp1]; exact (Hp.out.tb a1 ha1).2)))), Hp.out.tlen,
            fun x1 hx1 => ⟨by have := (Hp.out.mb x1 hx1).1; have := hW.size; omega, hmi _ (by have := (Hp.out.mb x1 hx1).1; omega) (Hp.out.mb x1 hx1).2⟩,
            fun x1 hx1 => ⟨by have := (Hp.out.tb x1 hx1).1; have := hW.size; omega, hmi _ (by have := (Hp.out.tb x1 hx1).1; omega) (Hp.out.tb x1 hx1).2⟩,
            fun u hu => Hsub.out u (a.nth_vars i u hu),
            fun u hu => ⟨Nat.lt_of_lt_of_le (Hp.out.tos u hu).1 HSt.out.grown.len, (Hp.out.tos u hu).2.grown Hp.out.live.cls HSt.out.grown (by simpa using (Hp.out.tos u hu).1)⟩, by omega⟩ (FoCells.keep _ hfx (fun _ h => h) (fun p hp => (hW.cell (by have := (Hp.out.pb _ hp).1; omega)).trans (hPk p hp))))
          have l0 : w.heap.size < wr.heap.size := by omega
          have l1 : w.heap.size + 1 < wr.heap.size := by omega
          have lb : b < wr.heap.size := by omega
          have nM : ¬ Mi w.heap.size ∧ ¬ Mi (w.heap.size + 1) ∧ ¬ Mi b := ⟨hmi _ (by omega) (HMb.out _ (by omega)), hmi _ (by omega) (HMb.out _ (by omega)), hmi b (by omega) (Hp.out.pb b hb).2⟩
          have Hbb := hide (Hp.out.pb b hb)
          clear p0 p1 p2 p3 hfx hb hPk hmi hbk y0 y2
          go_upto_region 11 with fail
          go_cut [13, 14] from 37 to 60 (fun u13 u14 wx => ∃ (bx : Nat) (v3 : Value) (a3 : Nat) (N3 : List Nd) (c3 : Nat → Nat) (M3 : Nat → Prop), u13 = .pointer (some ⟨bx, 0, none⟩) ∧ u14 = .int .i64 (a3 : Int) ∧ Hid (BuNew wr Mi Ni ci σ (a.nth i) bx v3 a3 N3 c3 M3 wx))
          case first =>
            refine wp_region_noPanic ?_
            refine wp_region_held_drew (S := fun w' => w'.cell? ⟨w.heap.size, 0, none⟩ = some (.slice Ai Ni.length ci1) ∧ w'.cell? ⟨w.heap.size + 1, 3, none⟩ = some (.slice (some ⟨b, off, none⟩) a.len cc) ∧ w'.cell? ⟨b, off + i * 4, none⟩ = some (.int .i64 kx) ∧ w'.cell? ⟨b, off + i * 4 + 1, none⟩ = some (.int .i64 nx) ∧ w'.cell? ⟨b, off + i * 4 + 2, none⟩ = some (.string sx) ∧ w'.cell? ⟨b, off + i * 4 + 3, none⟩ = some (.slice Bx mx cx)) (by kernel_rfl) ⟨s0, s1, s2, s3, s4, s5⟩ (fun hHeld => ?_)
            refine wpAnyH_take (i := 0) (oi := _) (v := ?_) rfl (by kernel_rfl) (by kernel_rfl) (by kernel_rfl) (fun _ _ _ h => h) (Or.inl ⟨by rfl, ?_⟩) hHeld ?_
            rotate_left
            · intro w' hSw
              obtain ⟨hS0, hS1, hS2, hS3, hS4, hS5⟩ := hSw
              go_simp
              try (with_reducible rfl)
            try simp only [List.getElem_toArray, List.getElem_cons_zero, List.getElem_cons_succ, Act.put, List.setIfInBounds_toArray, List.set_cons_zero, List.set_cons_succ]
            refine wpAnyH_take (i := 1) (oi := _) (v := ?_) rfl (by kernel_rfl) (by kernel_rfl) (by kernel_rfl) (fun _ _ _ h => h) (Or.inl ⟨by rfl, ?_⟩) hHeld ?_
            rotate_left
            · intro w' hSw
              obtain ⟨hS0, hS1, hS2, hS3, hS4, hS5⟩ := hSw
              go_simp
              try (with_reducible rfl)
            try simp only [List.getElem_toArray, List.getElem_cons_zero, List.getElem_cons_succ, Act.put, List.setIfInBounds_toArray, List.set_cons_zero, List.set_cons_succ]
            refine wpAnyH_take (i := 2) (oi := _) (v := ?_) rfl (by kernel_rfl) (by kernel_rfl) (by kernel_rfl) (fun _ _ _ h => h) (Or.inl ⟨by rfl, ?_⟩) hHeld ?_
            rotate_left
            · intro w' hSw
              obtain ⟨hS0, hS1, hS2, hS3, hS4, hS5⟩ := hSw
              go_simp
              try (with_reducible rfl)
            try simp only [List.getElem_toArray, List.getElem_cons_zero, List.getElem_cons_succ, Act.put, List.setIfInBounds_toArray, List.set_cons_zero, List.set_cons_succ]
            refine wpAnyH_take (i := 3) (oi := _) (v := ?_) rfl (by kernel_rfl) (by kernel_rfl) (by kernel_rfl) (fun _ _ _ h => h) (Or.inl ⟨by rfl, ?_⟩) hHeld ?_
            rotate_left
            · intro w' hSw
              obtain ⟨hS0, hS1, hS2, hS3, hS4, hS5⟩ := hSw
              go_simp
              try (with_reducible rfl)
            try simp only [List.getElem_toArray, List.getElem_cons_zero, List.getElem_cons_succ, Act.put, List.setIfInBounds_toArray, List.set_cons_zero, List.set_cons_succ]
            refine wpAnyH_take (i := 4) (oi := _) (v := ?_) rfl (by kernel_rfl) (by kernel_rfl) (by kernel_rfl) (fun _ _ _ h => h) (Or.inl ⟨by rfl, ?_⟩) hHeld ?_
            rotate_left
            · intro w' hSw
              obtain ⟨hS0, hS1, hS2, hS3, hS4, hS5⟩ := hSw
              go_simp
              try (with_reducible rfl)
            try simp only [List.getElem_toArray, List.getElem_cons_zero, List.getElem_cons_succ, Act.put, List.setIfInBounds_toArray, List.set_cons_zero, List.set_cons_succ]
            refine wpAnyH_take (i := 5) (oi := _) (v := ?_) rfl (by kernel_rfl) (by kernel_rfl) (by kernel_rfl) (fun _ _ _ h => h) (Or.inl ⟨by rfl, ?_⟩) hHeld ?_
            rotate_left
            · intro w' hSw
              obtain ⟨hS0, hS1, hS2, hS3, hS4, hS5⟩ := hSw
              go_simp
              try (with_reducible rfl)
            try simp only [List.getElem_toArray, List.getElem_cons_zero, List.getElem_cons_succ, Act.put, List.setIfInBounds_toArray, List.set_cons_zero, List.set_cons_succ]
            refine wpAnyH_take (i := 6) (oi := _) (v := ?_) rfl (by kernel_rfl) (by kernel_rfl) (by kernel_rfl) (fun _ _ _ h => h) (Or.inl ⟨by rfl, ?_⟩) hHeld ?_
            rotate_left
            · intro w' hSw
              obtain ⟨hS0, hS1, hS2, hS3, hS4, hS5⟩ := hSw
              go_simp
              try (with_reducible rfl)
            try simp only [List.getElem_toArray, List.getElem_cons_zero, List.getElem_cons_succ, Act.put, List.setIfInBounds_toArray, List.set_cons_zero, List.set_cons_succ]
            refine wpAnyH_take (i := 7) (oi := _) (v := ?_) rfl (by kernel_rfl) (by kernel_rfl) (by kernel_rfl) (fun _ _ _ h => h) (Or.inl ⟨by rfl, ?_⟩) hHeld ?_
            rotate_left
            · intro w' hSw
              obtain ⟨hS0, hS1, hS2, hS3, hS4, hS5⟩ := hSw
              go_simp
              try (with_reducible rfl)
            try simp only [List.getElem_toArray, List.getElem_cons_zero, List.getElem_cons_succ, Act.put, List.setIfInBounds_toArray, List.set_cons_zero, List.set_cons_succ]
            refine wpAnyH_ready (rs := [8, 12]) (by kernel_rfl) (by simp) ?_
            refine AllReadyH.cons (o := _) rfl (fun K hK => ?_) (AllReadyH.cons (o := _) rfl (fun K hK => ?_) AllReadyH.nil)
            · go_simp
              refine (HC.out _ (Below.refl _ _).drew).mono ?_
              rintro e w3 ⟨v3, a3, N3, c3, rfl, hl3, hg3, hn3, ha3, ht3, ho3⟩
              obtain ⟨A3, c33, hv33⟩ := hl3.slice
              subst hv33
              have Hn := hide (buNew_a hl3 hg3 hn3 ha3 ht3 ho3)
              have hz3 : wr.heap.size ≤ w3.heap.size := ho3.size
              have q0 := (ho3.cell (p := ⟨w.heap.size, 0, none⟩) l0 (nM.1)).trans s0
              have q1 := (ho3.cell (p := ⟨w.heap.size + 1, 3, none⟩) l1 (nM.2.1)).trans s1
              have q2 := (ho3.cell (p := ⟨b, off + i * 4, none⟩) lb (nM.2.2)).trans s2
              have q3 := (ho3.cell (p := ⟨b, off + i * 4 + 1, none⟩) lb (nM.2.2)).trans s3
              have q4 := (ho3.cell (p := ⟨b, off + i * 4 + 2, none⟩) lb (nM.2.2)).trans s4
              have q5 := (ho3.cell (p := ⟨b, off + i * 4 + 3, none⟩) lb (nM.2.2)).trans s5
              clear hHeld hl3 hg3 hn3 ha3 ht3 ho3
              go_wp2_with fail
              refine hK.out _ _ ⟨q0, q1, q2, q3, q4, q5⟩ (fun hHeld => ?_)
              clear hK K
              try simp only [List.getElem_toArray, List.getElem_cons_zero, List.getElem_cons_succ, Act.put, List.setIfInBounds_toArray, List.set_cons_zero, List.set_cons_succ]
              refine wpAnyH_take (i := 9) (oi := _) (v := ?_) rfl (by kernel_rfl) (by kernel_rfl) (by kernel_rfl) (fun _ _ _ h => h) (Or.inl ⟨by rfl, ?_⟩) hHeld ?_
              rotate_left
              · intro w' hSw
                obtain ⟨hS0, hS1, hS2, hS3, hS4, hS5⟩ := hSw
                go_simp
                try (with_reducible rfl)
              try simp only [List.getElem_toArray, List.getElem_cons_zero, List.getElem_cons_succ, Act.put, List.setIfInBounds_toArray, List.set_cons_zero, List.set_cons_succ]
              refine wpAnyH_take (i := 10) (oi := _) (v := ?_) rfl (by kernel_rfl) (by kernel_rfl) (by kernel_rfl) (fun _ _ _ h => h) (Or.inl ⟨by rfl, ?_⟩) hHeld ?_
              rotate_left
              · intro w' hSw
                obtain ⟨hS0, hS1, hS2, hS3, hS4, hS5⟩ := hSw
                go_simp
                try (with_reducible rfl)
              try simp only [List.getElem_toArray, List.getElem_cons_zero, List.getElem_cons_succ, Act.put, List.setIfInBounds_toArray, List.set_cons_zero, List.set_cons_succ]
              refine wpAnyH_take (i := 11) (oi := _) (v := ?_) rfl (by kernel_rfl) (by kernel_rfl) (by kernel_rfl) (fun _ _ _ h => h) (Or.inl ⟨by rfl, ?_⟩) hHeld ?_
              rotate_left
              · intro w' hSw
                obtain ⟨hS0, hS1, hS2, hS3, hS4, hS5⟩ := hSw
                go_simp
                try (with_reducible rfl)
              try simp only [List.getElem_toArray, List.getElem_cons_zero, List.getElem_cons_succ, Act.put, List.setIfInBounds_toArray, List.set_cons_zero, List.set_cons_succ]
              refine wpAnyH_ready (rs := [12]) (by kernel_rfl) (by simp) ?_
              refine AllReadyH.cons (o := _) rfl (fun K hK => ?_) AllReadyH.nil
              go_simp
              clear hHeld
              have p0 := (World.cell?_alloc_lt w3 (.cells #[.slice none 0 0] 29) ⟨w.heap.size, 0, none⟩ (Nat.lt_of_lt_of_le l0 hz3)).trans q0
              have p1 := (World.cell?_alloc_lt w3 (.cells #[.slice none 0 0] 29) ⟨w.heap.size + 1, 3, none⟩ (Nat.lt_of_lt_of_le l1 hz3)).trans q1
              have p2 := (World.cell?_alloc_lt w3 (.cells #[.slice none 0 0] 29) ⟨b, off + i * 4, none⟩ (Nat.lt_of_lt_of_le lb hz3)).trans q2
              have p3 := (World.cell?_alloc_lt w3 (.cells #[.slice none 0 0] 29) ⟨b, off + i * 4 + 1, none⟩ (Nat.lt_of_lt_of_le lb hz3)).trans q3
              have p4 := (World.cell?_alloc_lt w3 (.cells #[.slice none 0 0] 29) ⟨b, off + i * 4 + 2, none⟩ (Nat.lt_of_lt_of_le lb hz3)).trans q4
              have p5 := (World.cell?_alloc_lt w3 (.cells #[.slice none 0 0] 29) ⟨b, off + i * 4 + 3, none⟩ (Nat.lt_of_lt_of_le lb hz3)).trans q5
              refine hK.out _ _ ⟨p0, p1, p2, p3, p4, p5⟩ (fun hHeld => ?_)
              clear hK K
              try simp only [List.getElem_toArray, List.getElem_cons_zero, List.getElem_cons_succ, Act.put, List.setIfInBounds_toArray, List.set_cons_zero, List.set_cons_succ]
              refine wpAnyH_ready (rs := [13]) (by kernel_rfl) (by simp) ?_
              refine AllReadyH.cons (o := _) rfl (fun K hK => ?_) AllReadyH.nil
              go_simp
              clear hHeld
              have t0 := (World.cell?_alloc_lt w3 (.cells #[.slice A3 N3.length c33] 29) ⟨w.heap.size, 0, none⟩ (Nat.lt_of_lt_of_le l0 hz3)).trans q0
              have t1 := (World.cell?_alloc_lt w3 (.cells #[.slice A3 N3.length c33] 29) ⟨w.heap.size + 1, 3, none⟩ (Nat.lt_of_lt_of_le l1 hz3)).trans q1
              have t2 := (World.cell?_alloc_lt w3 (.cells #[.slice A3 N3.length c33] 29) ⟨b, off + i * 4, none⟩ (Nat.lt_of_lt_of_le lb hz3)).trans q2
              have t3 := (World.cell?_alloc_lt w3 (.cells #[.slice A3 N3.length c33] 29) ⟨b, off + i * 4 + 1, none⟩ (Nat.lt_of_lt_of_le lb hz3)).trans q3
              have t4 := (World.cell?_alloc_lt w3 (.cells #[.slice A3 N3.length c33] 29) ⟨b, off + i * 4 + 2, none⟩ (Nat.lt_of_lt_of_le lb hz3)).trans q4
              have t5 := (World.cell?_alloc_lt w3 (.cells #[.slice A3 N3.length c33] 29) ⟨b, off + i * 4 + 3, none⟩ (Nat.lt_of_lt_of_le lb hz3)).trans q5
              refine hK.out _ _ ⟨t0, t1, t2, t3, t4, t5⟩ (fun hHeld => ?_)
              clear hK K
              try simp only [List.getElem_toArray, List.getElem_cons_zero, List.getElem_cons_succ, Act.put, List.setIfInBounds_toArray, List.set_cons_zero, List.set_cons_succ]
              refine wpAnyH_ready (rs := [14]) (by kernel_rfl) (by simp) ?_
              refine AllReadyH.cons (o := _) rfl (fun K hK => ?_) AllReadyH.nil
              go_simp
              refine hK.out _ _ ⟨t0, t1, t2, t3, t4, t5⟩ (fun hHeld => ?_)
              clear hK K
              try simp only [List.getElem_toArray, List.getElem_cons_zero, List.getElem_cons_succ, Act.put, List.setIfInBounds_toArray, List.set_cons_zero, List.set_cons_succ]
              refine wpAnyH_done (by kernel_rfl) ?_ _
              refine NoPanic.normal ?_
              go_wp2_with fail
              refine Met.intro ?_
              go_step
              exact ⟨_, _, _, _, _, _, _, _, _, _, _, _, _, _, _, _, _, _, _, _, _, _, _, _, _, _, ⟨_, _, _, _, _, _, rfl, rfl, Hn⟩, rfl⟩
            · go_simp
              clear hHeld
              have p0 := (World.cell?_alloc_lt wr (.cells #[.slice none 0 0] 29) ⟨w.heap.size, 0, none⟩ l0).trans s0
              have p1 := (World.cell?_alloc_lt wr (.cells #[.slice none 0 0] 29) ⟨w.heap.size + 1, 3, none⟩ l1).trans s1
              have p2 := (World.cell?_alloc_lt wr (.cells #[.slice none 0 0] 29) ⟨b, off + i * 4, none⟩ lb).trans s2
              have p3 := (World.cell?_alloc_lt wr (.cells #[.slice none 0 0] 29) ⟨b, off + i * 4 + 1, none⟩ lb).trans s3
              have p4 := (World.cell?_alloc_lt wr (.cells #[.slice none 0 0] 29) ⟨b, off + i * 4 + 2, none⟩ lb).trans s4
              have p5 := (World.cell?_alloc_lt wr (.cells #[.slice none 0 0] 29) ⟨b, off + i * 4 + 3, none⟩ lb).trans s5
              refine hK.out _ _ ⟨p0, p1, p2, p3, p4, p5⟩ (fun hHeld => ?_)
              clear hK K
              try simp only [List.getElem_toArray, List.getElem_cons_zero, List.getElem_cons_succ, Act.put, List.setIfInBounds_toArray, List.set_cons_zero, List.set_cons_succ]
              refine wpAnyH_ready (rs := [8]) (by kernel_rfl) (by simp) ?_
              refine AllReadyH.cons (o := _) rfl (fun K hK => ?_) AllReadyH.nil
              go_simp
              refine (HC.out _ (((Below.refl _ _).alloc (Nat.le_refl _) _).drew)).mono ?_
              rintro e w3 ⟨v3, a3, N3, c3, rfl, hl3, hg3, hn3, ha3, ht3, ho3⟩
              obtain ⟨A3, c33, hv33⟩ := hl3.slice
              subst hv33
              have Hn := hide (buNew_b HSt.out.live hl3 hg3 hn3 ha3 ht3 ho3)
              have hz3 : wr.heap.size + 1 ≤ w3.heap.size := by have := ho3.size; simpa using this
              obtain ⟨bb0, bf0⟩ := one_cell ((ho3.block wr.heap.size (by simp) (fun hf => by have := HSt.out.live.lt _ hf; omega)).trans (heap_alloc_new wr (.cells #[.slice none 0 0] 29)))
              have q0 := (ho3.cell (p := ⟨w.heap.size, 0, none⟩) (by simp only [World.size_drew, World.size_alloc]; omega) (nM.1)).trans p0
              have q1 := (ho3.cell (p := ⟨w.heap.size + 1, 3, none⟩) (by simp only [World.size_drew, World.size_alloc]; omega) (nM.2.1)).trans p1
              have q2 := (ho3.cell (p := ⟨b, off + i * 4, none⟩) (by simp only [World.size_drew, World.size_alloc]; omega) (nM.2.2)).trans p2
              have q3 := (ho3.cell (p := ⟨b, off + i * 4 + 1, none⟩) (by simp only [World.size_drew, World.size_alloc]; omega) (nM.2.2)).trans p3
              have q4 := (ho3.cell (p := ⟨b, off + i * 4 + 2, none⟩) (by simp only [World.size_drew, World.size_alloc]; omega) (nM.2.2)).trans p4
              have q5 := (ho3.cell (p := ⟨b, off + i * 4 + 3, none⟩) (by simp only [World.size_drew, World.size_alloc]; omega) (nM.2.2)).trans p5
              clear hHeld hl3 hg3 hn3 ha3 ht3 ho3 p0 p1 p2 p3 p4 p5
              go_wp2_with fail
              refine hK.out _ _ ⟨q0, q1, q2, q3, q4, q5⟩ (fun hHeld => ?_)
              clear hK K
              try simp only [List.getElem_toArray, List.getElem_cons_zero, List.getElem_cons_succ, Act.put, List.setIfInBounds_toArray, List.set_cons_zero, List.set_cons_succ]
              refine wpAnyH_take (i := 9) (oi := _) (v := ?_) rfl (by kernel_rfl) (by kernel_rfl) (by kernel_rfl) (fun _ _ _ h => h) (Or.inl ⟨by rfl, ?_⟩) hHeld ?_
              rotate_left
              · intro w' hSw
                obtain ⟨hS0, hS1, hS2, hS3, hS4, hS5⟩ := hSw
                go_simp
                try (with_reducible rfl)
              try simp only [List.getElem_toArray, List.getElem_cons_zero, List.getElem_cons_succ, Act.put, List.setIfInBounds_toArray, List.set_cons_zero, List.set_cons_succ]
              refine wpAnyH_take (i := 10) (oi := _) (v := ?_) rfl (by kernel_rfl) (by kernel_rfl) (by kernel_rfl) (fun _ _ _ h => h) (Or.inl ⟨by rfl, ?_⟩) hHeld ?_
              rotate_left
              · intro w' hSw
                obtain ⟨hS0, hS1, hS2, hS3, hS4, hS5⟩ := hSw
                go_simp
                try (with_reducible rfl)
              try simp only [List.getElem_toArray, List.getElem_cons_zero, List.getElem_cons_succ, Act.put, List.setIfInBounds_toArray, List.set_cons_zero, List.set_cons_succ]
              refine wpAnyH_take (i := 11) (oi := _) (v := ?_) rfl (by kernel_rfl) (by kernel_rfl) (by kernel_rfl) (fun _ _ _ h => h) (Or.inl ⟨by rfl, ?_⟩) hHeld ?_
              rotate_left
              · intro w' hSw
                obtain ⟨hS0, hS1, hS2, hS3, hS4, hS5⟩ := hSw
                go_simp
                try (with_reducible rfl)
              try simp only [List.getElem_toArray, List.getElem_cons_zero, List.getElem_cons_succ, Act.put, List.setIfInBounds_toArray, List.set_cons_zero, List.set_cons_succ]
              refine wpAnyH_ready (rs := [13]) (by kernel_rfl) (by simp) ?_
              refine AllReadyH.cons (o := _) rfl (fun K hK => ?_) AllReadyH.nil
              go_simp
              clear hHeld
              have t0 := (World.cell?_setCell_far w3 ⟨wr.heap.size, 0, none⟩ ⟨w.heap.size, 0, none⟩ (.slice A3 N3.length c33) (by simp only; omega)).trans q0
              have t1 := (World.cell?_setCell_far w3 ⟨wr.heap.size, 0, none⟩ ⟨w.heap.size + 1, 3, none⟩ (.slice A3 N3.length c33) (by simp only; omega)).trans q1
              have t2 := (World.cell?_setCell_far w3 ⟨wr.heap.size, 0, none⟩ ⟨b, off + i * 4, none⟩ (.slice A3 N3.length c33) (by simp only; omega)).trans q2
              have t3 := (World.cell?_setCell_far w3 ⟨wr.heap.size, 0, none⟩ ⟨b, off + i * 4 + 1, none⟩ (.slice A3 N3.length c33) (by simp only; omega)).trans q3
              have t4 := (World.cell?_setCell_far w3 ⟨wr.heap.size, 0, none⟩ ⟨b, off + i * 4 + 2, none⟩ (.slice A3 N3.length c33) (by simp only; omega)).trans q4
              have t5 := (World.cell?_setCell_far w3 ⟨wr.heap.size, 0, none⟩ ⟨b, off + i * 4 + 3, none⟩ (.slice A3 N3.length c33) (by simp only; omega)).trans q5
              refine hK.out _ _ ⟨t0, t1, t2, t3, t4, t5⟩ (fun hHeld => ?_)
              clear hK K
              try simp only [List.getElem_toArray, List.getElem_cons_zero, List.getElem_cons_succ, Act.put, List.setIfInBounds_toArray, List.set_cons_zero, List.set_cons_succ]
              refine wpAnyH_ready (rs := [14]) (by kernel_rfl) (by simp) ?_
              refine AllReadyH.cons (o := _) rfl (fun K hK => ?_) AllReadyH.nil
              go_simp
              refine hK.out _ _ ⟨t0, t1, t2, t3, t4, t5⟩ (fun hHeld => ?_)
              clear hK K
              try simp only [List.getElem_toArray, List.getElem_cons_zero, List.getElem_cons_succ, Act.put, List.setIfInBounds_toArray, List.set_cons_zero, List.set_cons_succ]
              refine wpAnyH_done (by kernel_rfl) ?_ _
              refine NoPanic.normal ?_
              go_wp2_with fail
              refine Met.intro ?_
              go_step
              exact ⟨_, _, _, _, _, _, _, _, _, _, _, _, _, _, _, _, _, _, _, _, _, _, _, _, _, _, ⟨_, _, _, _, _, _, rfl, rfl, Hn⟩, rfl⟩
          case rest =>
            obtain ⟨bx, v3, a3, N3, c3, M3, rfl, rfl, HN⟩ := hcut
            obtain ⟨A3, c33, hv3⟩ := HN.out.live.slice
            subst hv3
            have hz4 : wr.heap.size ≤ wc.heap.size := HN.out.only.size
            have hbs4 := (HN.out.only.block w.heap.size l0 nM.1).trans HSt.out.box
            obtain ⟨d0, g0⟩ := one_cell hbs4
            obtain ⟨d1, -⟩ := one_cell HN.out.box
            have hrow4 := own_keep HSt.out.row (fun b1 hb1 => HN.out.only.block b1 (HSt.out.row.lt b1 hb1).2 (HSt.out.apart b1 hb1))
            have hrow5 : (wc.setCell ⟨w.heap.size, 0, none⟩ (.slice A3 N3.length c33)).ownsRow W0.heap.size 3 1 u11 ys.length (nats ys) := own_keep hrow4 (fun b1 hb1 => Below.heap_setCell _ _ _ b1 (by have := (hrow4.lt b1 hb1).1; simp only; omega))
            have HO := hide (hrow5.alloc (.cells #[.int .i64 (a3 : Int)] 3))
            have hN4 := one_new (wc.setCell ⟨w.heap.size, 0, none⟩ (.slice A3 N3.length c33)) (.int .i64 (a3 : Int)) 3
            rw [show (wc.setCell ⟨w.heap.size, 0, none⟩ (.slice A3 N3.length c33)).heap.size = wc.heap.size by simp [World.setCell]] at hN4
            have HN4 := hide hN4
            have HE4 : Hid (∀ u ∈ [Value.int .i64 (a3 : Int)], u.oneCell' = true) := hide (by simp [Value.oneCell'])
            have hz5 : (wc.setCell ⟨w.heap.size, 0, none⟩ (.slice A3 N3.length c33)).heap.size = wc.heap.size := by simp [World.setCell]
            have hz6 : W0.heap.size ≤ (wc.setCell ⟨w.heap.size, 0, none⟩ (.slice A3 N3.length c33)).heap.size := by omega
            have Hbs4 := hide hbs4
            clear hbs4 hrow4 hrow5 hz5 hN4 s0 s1 s2 s3 s4 s5 f0 HC
            go_wp2_with (at_builtin; refine wpList_append_own_at _ rfl (.tmp 57) (.tmp 59) 30 rfl W0.heap.size 3 i1 (.int .i64 0) 1 8 Try.underlying30 Ki.out Kz0.out Kz1.out Kz2.out rfl (by decide) u11 ys.length (nats ys) rfl HO.out ⟨wc.heap.size, 0, none⟩ 1 1 [.int .i64 (a3 : Int)] rfl rfl HN4.out HE4.out (by unfold maxLen; omega) (by omega) (by simp; omega) ?_; intro v8 W8 own8 grow8 nil8 at8; clear nil8; have Hown8 := hide own8; have Hgrow8 := hide grow8; have Hat8 := hide at8; clear own8 grow8 at8)
            have HNx : Hid (∃ (v1 : Value) (Mi : Nat → Prop) (Ni : List Nd) (ci : Nat → Nat) (ys : List Nat), ys.length = i + 1 ∧ BuSt W0 w.heap.size M N c σ a (i + 1) v8 W8 v1 Mi Ni ci ys) := hide ⟨_, M3, N3, c3, ys ++ [a3], by simp; omega, buSt_next HSt.out (by omega) (HMb.out _ (by omega)) hlt HN.out Hgrow8.out Hown8.out Hat8.out⟩
            go_roundw
            case measure => simp [intOf]; omega
            case rel => exact ⟨i + 1, by go_num, by omega, HNx⟩
        · obtain rfl : i = a.len := by omega
          have htree := HSt.out.tree
          rw [Fo.takeF_all] at htree
          have hln := HSt.out.len
          rw [Fo.takeF_all] at hln
          have Htree := hide htree
          obtain ⟨A5, c5, hv5, hN5, hl5⟩ := nats_of_own HSt.out.row
          have HN5 := hide hN5; have Hl5 := hide hl5
          subst hv5
          have Hadd := hide (rlive_add HSt.out.live ⟨kd, s, ys⟩ 0 A5 c5 HN5.out (by omega) (by simp only; omega) HSt.out.yok (fun h1 => absurd h1 Hp.out.proper.1))
          have hb2r := (HSt.out.only.block (w.heap.size + 2) (by omega) (by
            rintro (h | h)
            · exact HMb.out _ (by omega) h
            · omega)).trans Hb2.out
          have hnM2 : ¬ Mi (w.heap.size + 2) := fun h3 => by
            rcases HSt.out.mi _ h3 with h4 | h4
            · exact HMb.out _ (by omega) h4
            · omega
          have hl2 : w.heap.size + 2 < wr.heap.size := by omega
          clear htree hN5 hl5 hlt hi
          go_wp2_with fail
          refine Hadd.out.mono ?_
          rintro e w4 ⟨v4, rfl, hl4, ho4⟩
          obtain ⟨A4, c4, hv4⟩ := hl4.slice
          subst hv4
          have hb24 := (ho4.block (w.heap.size + 2) hl2 hnM2).trans hb2r
          obtain ⟨d2, g2⟩ := one_cell hb24
          have d2 : w4.cell? ⟨w.heap.size + 1 + 1, 0, none⟩ = some (.slice none 0 0) := d2
          have g2 : w4.frozen? ⟨w.heap.size + 1 + 1, 0, none⟩ = false := g2
          have hz4 := ho4.size
          have hon5 : Only (fun b => b = w.heap.size + 2) w4 (w4.setCell ⟨w.heap.size + 2, 0, none⟩ (.slice A4 (Ni ++ [(⟨kd, s, ys⟩ : Nd)]).length c4)) := (Only.refl (fun b => b = w.heap.size + 2) w4).setCell (p := ⟨w.heap.size + 2, 0, none⟩) (.inl rfl) _
          have hlv5 : RLive (more Mi wr w4) (.slice A4 (Ni ++ [(⟨kd, s, ys⟩ : Nd)]).length c4) (Ni ++ [(⟨kd, s, ys⟩ : Nd)]) (addC Ni.length ci) (w4.setCell ⟨w.heap.size + 2, 0, none⟩ (.slice A4 (Ni ++ [(⟨kd, s, ys⟩ : Nd)]).length c4)) := hl4.keep hon5 (fun b hb => by
            subst hb
            rintro (h | h)
            · exact hnM2 h
            · omega)
          have honly : Only M w (w4.setCell ⟨w.heap.size + 2, 0, none⟩ (.slice A4 (Ni ++ [(⟨kd, s, ys⟩ : Nd)]).length c4)) := by
            have k1 : Only M w W0 := Only.of_below Hbw.out _
            have k2 : Only M w wr := k1.then_ HSt.out.only (fun b hb hl => by
              rcases hb with hb | hb
              · exact hb
              · omega)
            have k3 : Only M w w4 := k2.then_ ho4 (fun b hb hl => by
              rcases HSt.out.mi b hb with h4 | h4
              · exact h4
              · omega)
            exact k3.then_ hon5 (fun b hb hl => by omega)
          have hkd : kd ≠ 1 := Hp.out.proper.1
          have hz5 := hon5.size
          have hpost : BuPost w M N c σ (.con kd s a .nil) (.returned (.tuple #[.agg #[.slice A4 (Ni ++ [(⟨kd, s, ys⟩ : Nd)]).length c4], .int .i64 (Ni.length : Int)])) (w4.setCell ⟨w.heap.size + 2, 0, none⟩ (.slice A4 (Ni ++ [(⟨kd, s, ys⟩ : Nd)]).length c4)) := by
            refine ⟨_, Ni.length, Ni ++ [(⟨kd, s, ys⟩ : Nd)], addC Ni.length ci, rfl, ⟨hlv5.out.imp fun ad h => ?_, fun b hb => ?_⟩, HSt.out.grown.trans (Grown.add Ni ci (⟨kd, s, ys⟩ : Nd)), ?_, by simp, ?_, honly⟩
            · obtain ⟨R, d, q1, q2, q3, q4, q5⟩ := h
              have hmm : ∀ b, more Mi wr w4 b → more M w (w4.setCell ⟨w.heap.size + 2, 0, none⟩ (.slice A4 (Ni ++ [(⟨kd, s, ys⟩ : Nd)]).length c4)) b := fun b hb => by
                rcases hb with hb | hb
                · rcases HSt.out.mi b hb with h4 | h4
                  · exact .inl h4
                  · exact .inr (by omega)
                · exact .inr (by omega)
              exact ⟨R, d, q1, q2, q3, fun b hb => hmm b (q4 b hb), fun i2 a2 ha2 x2 hx2 => hmm _ (q5 i2 a2 ha2 x2 hx2)⟩
            · rcases hb with hb | hb
              · have := Hp.out.live.lt b hb; omega
              · exact hb.2
            · simp only [List.length_append, List.length_cons, List.length_nil, Fo.cnt]; omega
            · exact tree_new_con (p := ⟨kd, s, ys⟩) HSt.out.live.cls hl4.cls hkd HSt.out.yok Htree.out
          have k0 := (one_cell (blk_set hb24 0 (.slice A4 (Ni ++ [(⟨kd, s, ys⟩ : Nd)]).length c4))).1
          have Hpost := hide hpost
          clear hpost honly hlv5 hon5 hb24 hl4 ho4 hz5 hb2r s0 f0 y0 y2 s1
          obtain ⟨nn, hnn⟩ : ∃ nn, (Ni ++ [(⟨kd, s, ys⟩ : Nd)]).length = nn := ⟨_, rfl⟩
          rw [hnn] at k0 Hpost ⊢
          obtain ⟨W9, hW9⟩ : ∃ W9, w4.setCell ⟨w.heap.size + 2, 0, none⟩ (.slice A4 nn c4) = W9 := ⟨_, rfl⟩
          rw [hW9] at k0 Hpost
          have k0 : W9.cell? ⟨w.heap.size + 1 + 1, 0, none⟩ = some (.slice A4 nn c4) := k0
          clear hnn
          go_wp2
          exact bodyPost_ret (v := .tuple #[.agg #[.slice A4 nn c4], .int .i64 (Ni.length : Int)]) (by simp [results, Try.results54, go_sem, k0]) rfl Hpost.out
end Go.Proofs.Ytafpbdmggnfdnaa
