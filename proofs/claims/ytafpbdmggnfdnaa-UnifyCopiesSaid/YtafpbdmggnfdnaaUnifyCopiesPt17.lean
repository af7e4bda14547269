/- Part 17 of the proof of UnifyCopies: what follows was kept as these texts: RefTypes, RefTypesAny, RefAlike. -/
import Derived.Test.YtafpbdmggnfdnaaUnifyCopiesPt1
import Derived.Test.YtafpbdmggnfdnaaUnifyCopiesPt2
import Derived.Test.YtafpbdmggnfdnaaUnifyCopiesPt3
import Derived.Test.YtafpbdmggnfdnaaUnifyCopiesPt4
import Derived.Test.YtafpbdmggnfdnaaUnifyCopiesPt5
import Derived.Test.YtafpbdmggnfdnaaUnifyCopiesPt6
import Derived.Test.YtafpbdmggnfdnaaUnifyCopiesPt7
import Derived.Test.YtafpbdmggnfdnaaUnifyCopiesPt8
import Derived.Test.YtafpbdmggnfdnaaUnifyCopiesPt9
import Derived.Test.YtafpbdmggnfdnaaUnifyCopiesPt10
import Derived.Test.YtafpbdmggnfdnaaUnifyCopiesPt11
import Derived.Test.YtafpbdmggnfdnaaUnifyCopiesPt12
import Derived.Test.YtafpbdmggnfdnaaUnifyCopiesPt13
import Derived.Test.YtafpbdmggnfdnaaUnifyCopiesPt14
import Derived.Test.YtafpbdmggnfdnaaUnifyCopiesPt15
import Derived.Test.YtafpbdmggnfdnaaUnifyCopiesPt16
import Derived.Deep.CutRange
/- The reference's Types. -/
namespace Go.Proofs.Ytafpbdmggnfdnaa
open Go.RowKit Go.Maps
set_option linter.unusedVariables false

set_option maxRecDepth 100000 in
set_option maxHeartbeats 4000000 in
theorem rtypes_no {w : World} {v : Value} {ad : List (Option Addr × Nat)} {R : RS} (h : RSt w v ad R) (A : Option Addr) (cap : Nat) (xs : List Int) (hA : Ints w A xs) (hl : xs.length ≤ 1000000) (hall : allIn R.nodes.length xs = false) :
    Calls Try.prog 17 #[.agg #[v], .slice A xs.length cap] w (TypesNo w 221) := by
  obtain ⟨A0, cap0, hv0, _, _⟩ := own_len h.own
  subst hv0
  have hb1 : Below w.heap.size w (w.alloc (.cells #[.slice A0 R.nodes.length cap0] 29)) := (Below.refl _ _).alloc (Nat.le_refl _) _
  have hbox := heap_alloc_new w (.cells #[.slice A0 R.nodes.length cap0] 29)
  obtain ⟨W0, hW0⟩ : ∃ W0, w.alloc (.cells #[.slice A0 R.nodes.length cap0] 29) = W0 := ⟨_, rfl⟩
  rw [hW0] at hb1 hbox
  have HW0 := hide hW0; have Hb1 := hide hb1; have Hbox := hide hbox; have Hh := hide h; have HA := hide hA; have Hall := hide hall
  have hw0 : w.heap.size < W0.heap.size := (Array.getElem?_eq_some_iff.1 hbox).1
  clear hW0 hb1 hbox h hA hall
  go_enter Try.func17, Try.ntmps17
  go_wp2
  simp only [HW0.out]
  go_loopw [6] (fun vi wr => ∃ k : Nat, vi = .int .i64 k ∧ k ≤ xs.length ∧ Hid (allIn R.nodes.length (xs.take k) = true) ∧ Hid (Below W0.heap.size W0 wr)) (fun vi _ => xs.length - (intOf vi).toNat)
  case atStart => exact ⟨0, rfl, by omega, hide (by simp [allIn]), hide (Below.refl _ _)⟩
  case round =>
    obtain ⟨k, rfl, hk, HAll, HB⟩ := hrel
    have hwl : w.heap.size < wr.heap.size := by have := HB.out.size; omega
    have q0 := (HB.out.block _ hw0).trans Hbox.out
    have Hbw := hide (Hb1.out.trans (HB.out.mono (by omega)))
    have Hst := hide (Hh.out.later Hbw.out)
    obtain ⟨s0, t0⟩ := one_cell q0
    clear q0
    by_cases hlt : k < xs.length
    · obtain ⟨b, off, rfl, hb, d0⟩ := HA.out.at_ k hlt
      obtain ⟨x, hx⟩ : ∃ x, xs[k] = x := ⟨_, rfl⟩
      have d1 := (Hbw.out.cell (p := ⟨b, off + k, none⟩) hb).trans d0
      rw [hx] at d1
      have Hx := hide hx
      have HIs := hide (fun W (hW : RSt W (.slice A0 R.nodes.length cap0) ad R) => ris_any hW x)
      clear d0 hx
      have hbl : b < wr.heap.size := by omega
      have hwr0 : w.heap.size ≤ wr.heap.size := by omega
      have hwr1 : W0.heap.size ≤ wr.heap.size := HB.out.size
      cases hin : inB R.nodes.length x
      · rw [hin] at HIs
        clear hin
        go_wp2
        go_region_held3 (fun w' => w'.cell? ⟨w.heap.size, 0, none⟩ = some (.slice A0 R.nodes.length cap0) ∧ w'.cell? ⟨b, off + k, none⟩ = some (.int .i64 x)) (go_keep)
          (first | (go_at_call 39; refine (HIs.out _ (Hst.out.later (by first | exact Below.refl _ _ | exact (Below.refl _ _).drew))).mono ?_; rintro e w' ⟨rfl, hb'⟩; have r0 := (hb'.cell (p := ⟨w.heap.size, 0, none⟩) hwl).trans s0; have r1 := (hb'.cell (p := ⟨b, off + k, none⟩) hbl).trans d1))
        have Hbw' := hide (Hbw.out.trans ((Below.refl _ _).drew.trans (hb'.mono hwr0)))
        clear s0 t0 d1 hb' r0 r1 hbl
        go_wp2
        exact bodyPost_ret (v := .tuple #[.slice none 0 0, .int .i64 221]) (by simp [results, Try.results17, go_sem]) rfl ⟨rfl, Hbw'.out⟩
      · rw [hin] at HIs
        have Hin := hide hin
        clear hin
        go_wp2
        go_region_held3 (fun w' => w'.cell? ⟨w.heap.size, 0, none⟩ = some (.slice A0 R.nodes.length cap0) ∧ w'.cell? ⟨b, off + k, none⟩ = some (.int .i64 x)) (go_keep)
          (first | (go_at_call 39; refine (HIs.out _ (Hst.out.later (by first | exact Below.refl _ _ | exact (Below.refl _ _).drew))).mono ?_; rintro e w' ⟨rfl, hb'⟩; have r0 := (hb'.cell (p := ⟨w.heap.size, 0, none⟩) hwl).trans s0; have r1 := (hb'.cell (p := ⟨b, off + k, none⟩) hbl).trans d1))
        have Hb' := hide (HB.out.trans ((Below.refl _ _).drew.trans (hb'.mono hwr1)))
        clear s0 t0 d1 hb' r0 r1 hbl
        go_wp2
        go_roundw
        case measure => simp [intOf]; omega
        case rel => exact ⟨k + 1, by go_num, by omega, hide (allIn_snoc _ _ k hlt HAll.out (by rw [Hx.out]; exact Hin.out)), Hb'⟩
    · obtain rfl : k = xs.length := by omega
      have h1 := HAll.out
      rw [List.take_length, Hall.out] at h1
      cases h1
/-- What Types answers of known nodes. -/
def RTypesPost (w : World) (R : RS) (c : Nat → Nat) (ns : List Nat) (T : Fo) (e : Ending) (w' : World) : Prop :=
  ((∀ x ∈ ns, ∀ B, Stands R.nodes c idF [x] B → B.cnt ≤ 300) → TypesPost w ns.length (ren T) e w') ∧ ((∃ x ∈ ns, ∃ B, Stands R.nodes c idF [x] B ∧ 300 < B.cnt) → TypesNo w 120 e w')
/-- At the head of a round of the second loop. -/
structure TsRel (W2 : World) (gs : Nat) (R : RS) (c : Nat → Nat) (ns : List Nat) (T : Fo) (vm vr : Value) (i : Nat) (wr : World) : Prop where
  only : Only (fun b => b = gs) W2 wr
  known : ∃ li, li.length = R.nodes.length ∧ Arr wr gs li ∧ KnownOk R.nodes c li
  fits : ∀ x ∈ ns.take i, ∀ B, Stands R.nodes c idF [x] B → B.cnt ≤ 300
  parts : ∃ Ai Ri cs, T = Ai.app Ri ∧ Stands R.nodes c idF (ns.take i) Ai ∧ Stands R.nodes c idF (ns.drop i) Ri ∧ wr.ownsRow W2.heap.size 3 1 vm (addNew [] Ai.vars).length (nats (addNew [] Ai.vars)) ∧
    wr.ownsRow W2.heap.size 48 4 vr i cs ∧ FoCells wr (fun b => W2.heap.size ≤ b ∧ b < wr.heap.size ∧ vr.ownBlock ≠ some b ∧ vm.ownBlock ≠ some b) Ai cs
  apart : ∀ b, vm.ownBlock = some b → vr.ownBlock ≠ some b
/-- A new type in a new box. -/
structure NewTy (W wx : World) (bx : Nat) (kd nu : Int) (s : ByteArray) (A : Option Addr) (n c : Nat) (B : Fo) : Prop where
  below : Below W.heap.size W wx
  le : W.heap.size ≤ bx
  box : wx.heap[bx]? = some (.cells #[.int .i64 kd, .int .i64 nu, .string s, .slice A n c] 48 (0, 0))
  fo : FoCells wx (fun b => W.heap.size ≤ b ∧ b < wx.heap.size ∧ b ≠ bx) B (tyCells kd nu s A n c)
theorem newTy_a {W w3 : World} {kd nu : Int} {s : ByteArray} {A : Option Addr} {n c : Nat} {B : Fo} (hb : Below W.heap.size W w3) (hf : FoCells w3 (fun k => W.heap.size ≤ k ∧ k < w3.heap.size) B (tyCells kd nu s A n c)) :
    NewTy W (w3.alloc (.cells #[.int .i64 kd, .int .i64 nu, .string s, .slice A n c] 48)) w3.heap.size kd nu s A n c B := by
  refine ⟨hb.alloc hb.size _, hb.size, heap_alloc_new w3 _, FoCells.keep _ hf (fun b hb => ⟨hb.1, by simp only [World.size_alloc]; omega, by omega⟩) (fun p hp => World.cell?_alloc_lt w3 _ p hp.2)⟩
theorem newTy_b {W w3 : World} {u0 u1 u2 u3 : Value} {kd nu : Int} {s : ByteArray} {A : Option Addr} {n c : Nat} {B : Fo} (hb : Below (W.heap.size + 1) (W.alloc (.cells #[u0, u1, u2, u3] 48)) w3) (hf : FoCells w3 (fun k => W.heap.size + 1 ≤ k ∧ k < w3.heap.size) B (tyCells kd nu s A n c)) :
    NewTy W (set4 w3 W.heap.size (.int .i64 kd) (.int .i64 nu) (.string s) (.slice A n c)) W.heap.size kd nu s A n c B := by
  have h3 : w3.heap[W.heap.size]? = some (.cells #[u0, u1, u2, u3] 48 (0, 0)) := (hb.block _ (by omega)).trans (heap_alloc_new W _)
  have hz := hb.size
  rw [World.size_alloc] at hz
  refine ⟨set4_below (((Below.refl _ _).alloc (Nat.le_refl _) _).trans (hb.mono (by omega))) (Nat.le_refl _) _ _ _ _, Nat.le_refl _, ?_, FoCells.keep _ hf (fun b hb => ⟨by omega, by rw [set4_size]; omega, by omega⟩) (fun p hp => World.cell?_of_block (set4_other _ _ _ _ _ _ _ (by omega)))⟩
  unfold set4
  exact blk_set (blk_set (blk_set (blk_set h3 0 _) 1 _) 2 _) 3 _
theorem tsrel_next {W2 wr w' wc W4 W6 : World} {gs bx i x : Nat} {R : RS} {c : Nat → Nat} {ns : List Nat} {T Ai Ri B R' : Fo} {vm vr vm' vr' : Value} {cs : List Value} {kd nu : Int} {sn : ByteArray} {A5 : Option Addr} {n5 c5 : Nat} {o : Obj}
    (hgs : gs < W2.heap.size) (hon : Only (fun b => b = gs) W2 wr) (hfits : ∀ y ∈ ns.take i, ∀ B, Stands R.nodes c idF [y] B → B.cnt ≤ 300) (hap : ∀ b, vm.ownBlock = some b → vr.ownBlock ≠ some b)
    (hsp : T = Ai.app Ri) (hs1 : Stands R.nodes c idF (ns.take i) Ai) (hRR : Ri = B.app R') (hsB : Stands R.nodes c idF [x] B) (hsR : Stands R.nodes c idF (ns.drop (i + 1)) R') (hlt : i < ns.length) (hx : ns[i] = x) (hfit : B.cnt ≤ 300)
    (hownM : wr.ownsRow W2.heap.size 3 1 vm (addNew [] Ai.vars).length (nats (addNew [] Ai.vars))) (hownR : wr.ownsRow W2.heap.size 48 4 vr i cs) (hfo : FoCells wr (fun b => W2.heap.size ≤ b ∧ b < wr.heap.size ∧ vr.ownBlock ≠ some b ∧ vm.ownBlock ≠ some b) Ai cs)
    (ho5 : Only (fun b => b = gs) wr w') (hl5 : ∃ l', l'.length = R.nodes.length ∧ Arr w' gs l' ∧ KnownOk R.nodes c l') (hN : NewTy w' wc bx kd nu sn A5 n5 c5 B)
    (hon4 : Only (fun b => vm.ownBlock = some b) wc W4) (hown4 : W4.ownsRow W2.heap.size 3 1 vm' (addNew (addNew [] Ai.vars) B.vars).length (nats (addNew (addNew [] Ai.vars) B.vars))) (hat4 : ∀ b, vm'.ownBlock = some b → vm.ownBlock = some b ∨ wc.heap.size ≤ b)
    (hgr : (W4.alloc o).grownBy W6 vr.ownBlock) (hown6 : W6.ownsRow W2.heap.size 48 4 vr' (i + 1) (cs ++ tyCells kd nu sn A5 n5 c5)) (hat6 : vr'.ownBlock = vr.ownBlock ∨ vr'.ownBlock = some (W4.alloc o).heap.size) :
    TsRel W2 gs R c ns T vm' vr' (i + 1) W6 := by
  have z1 := hon.size; have z2 := ho5.size; have z3 := hN.below.size; have z4 := hon4.size; have z6 := hgr.size
  rw [World.size_alloc] at z6 hat6
  have hvm : ∀ b, vm.ownBlock = some b → W2.heap.size ≤ b ∧ b < wr.heap.size := hownM.lt
  have hvr : ∀ b, vr.ownBlock = some b → W2.heap.size ≤ b ∧ b < wr.heap.size := hownR.lt
  have hvm' : ∀ b, vm'.ownBlock = some b → W2.heap.size ≤ b ∧ b < W4.heap.size := hown4.lt
  have b6 : ∀ b, b < W4.heap.size → vr.ownBlock ≠ some b → W6.heap[b]? = W4.heap[b]? := fun b hb hne => far_block hgr hb hne
  have b4 : ∀ b, b < wc.heap.size → vm.ownBlock ≠ some b → vr.ownBlock ≠ some b → W6.heap[b]? = wc.heap[b]? := fun b hb h1 h2 => (b6 b (by omega) h2).trans (hon4.block b hb h1)
  have b1 : ∀ b, b < wr.heap.size → b ≠ gs → vm.ownBlock ≠ some b → vr.ownBlock ≠ some b → W6.heap[b]? = wr.heap[b]? := fun b hb h0 h1 h2 => (b4 b (by omega) h1 h2).trans ((hN.below.block b (by omega)).trans (ho5.block b hb h0))
  have hvr6 : ∀ b, b < W4.heap.size → vr.ownBlock ≠ some b → vr'.ownBlock ≠ some b := by
    intro b hb hne e
    rcases hat6 with e2 | e2
    · rw [e2] at e; exact hne e
    · rw [e2] at e; injection e with e; omega
  have hgsm : vm.ownBlock ≠ some gs := fun e => by have := (hvm gs e).1; omega
  have hgsr : vr.ownBlock ≠ some gs := fun e => by have := (hvr gs e).1; omega
  refine ⟨?_, ?_, ?_, ⟨Ai.app B, R', cs ++ tyCells kd nu sn A5 n5 c5, ?_, ?_, hsR, ?_, hown6, ?_⟩, ?_⟩
  · have k1 : Only (fun b => b = gs) W2 w' := hon.trans ho5
    have k2 : Only (fun b => b = gs) W2 wc := k1.then_ (Only.of_below hN.below (fun _ => False)) (fun _ h _ => h.elim)
    have k3 : Only (fun b => b = gs) W2 W4 := k2.then_ hon4 (fun b hb hl => by have := (hvm b hb).1; omega)
    exact (k3.alloc o).grown hgr (fun b hb => .inr (hvr b hb).1)
  · obtain ⟨l', h1, h2, h3⟩ := hl5
    exact ⟨l', h1, h2.keep ((b4 gs (by omega) hgsm hgsr).trans (hN.below.block gs (by omega))), h3⟩
  · intro y hy D hD
    rw [List.take_succ_eq_append_getElem hlt, hx, List.mem_append] at hy
    rcases hy with hy | hy
    · exact hfits y hy D hD
    · simp at hy; subst hy; rw [hD.unique hsB]; exact hfit
  · rw [hsp, hRR, Fo.app_assoc]
  · rw [List.take_succ_eq_append_getElem hlt, hx]; exact hs1.app hsB
  · rw [Fo.vars_app, addNew_append]
    exact own_keep hown4 (fun b hb => b6 b (hvm' b hb).2 (fun e => by
      rcases hat4 b hb with e2 | e2
      · exact hap b e2 e
      · have := (hvr b e).2; omega))
  · have hvm6 : ∀ b, b < wc.heap.size → vm.ownBlock ≠ some b → vm'.ownBlock ≠ some b := fun b hb hne e => by
      rcases hat4 b e with e2 | e2
      · exact hne e2
      · omega
    refine FoCells.app _ (FoCells.keep _ hN.fo ?_ ?_) (FoCells.keep _ hfo ?_ ?_)
    · rintro b ⟨h1, h2, h3⟩
      exact ⟨by omega, by omega, hvr6 b (by omega) (fun e => by have := (hvr b e).2; omega), hvm6 b h2 (fun e => by have := (hvm b e).2; omega)⟩
    · rintro p ⟨h1, h2, h3⟩
      exact World.cell?_of_block (b4 _ h2 (fun e => by have := (hvm _ e).2; omega) (fun e => by have := (hvr _ e).2; omega))
    · rintro b ⟨h1, h2, h3, h4⟩
      exact ⟨h1, by omega, hvr6 b (by omega) h3, hvm6 b (by omega) h4⟩
    · rintro p ⟨h1, h2, h3, h4⟩
      exact World.cell?_of_block (b1 _ h2 (by omega) h4 h3)
  · intro b hb e
    rcases hat4 b hb with e1 | e1 <;> rcases hat6 with e2 | e2
    · rw [e2] at e; exact hap b e1 e
    · rw [e2] at e; injection e with e; have := (hvm b e1).2; omega
    · rw [e2] at e; have := (hvr b e).2; omega
    · rw [e2] at e; injection e with e; have := (hvm' b hb).2; omega
/-- At the head of a round of the third loop. -/
structure AtRel (W7 : World) (ga n : Nat) (met : List Nat) (j : Nat) (l : List Nat) (wr : World) : Prop where
  only : Only (fun b => b = ga) W7 wr
  len : l.length = n
  arr : Arr wr ga l
  nums : ∀ k v, k < j → met[k]? = some v → par l v = k
theorem atrel_next {W7 wr : World} {ga n j v : Nat} {met l : List Nat} (h : AtRel W7 ga n met j l wr) (hnd : met.Nodup) (hj : met[j]? = some v) (hv : v < n) : AtRel W7 ga n met (j + 1) (l.set v j) (wr.setCell ⟨ga, v, none⟩ (.int .i64 (j : Int))) := by
  refine ⟨h.only.setCell (.inl rfl) _, by simp [h.len], h.arr.set v j, fun k u hk hu => ?_⟩
  rw [par_set _ _ _ _ (by rw [h.len]; exact hv)]
  by_cases e : u = v
  · rw [if_pos e]
    subst e
    have h1 := List.getElem?_eq_some_iff.1 hj
    have h2 := List.getElem?_eq_some_iff.1 hu
    obtain ⟨a1, a2⟩ := h1
    obtain ⟨b1, b2⟩ := h2
    exact (List.getElem_inj hnd).1 (a2.trans b2.symm)
  · rw [if_neg e]
    by_cases ek : k = j
    · subst ek; rw [hj] at hu; injection hu with hu; exact absurd hu.symm e
    · exact h.nums k u (by omega) hu
theorem atrel_ren {W7 wr : World} {ga n : Nat} {T : Fo} {l : List Nat} (h : AtRel W7 ga n (addNew [] T.vars) (addNew [] T.vars).length l wr) : T.mapv (par l) = ren T := by
  unfold ren
  refine Fo.mapv_congr T (fun v hv => ?_)
  have hm : v ∈ addNew [] T.vars := (addNew_mem _ _ _).2 (.inr hv)
  have hi := List.idxOf_lt_length_of_mem hm
  exact h.nums _ v hi (by rw [List.getElem?_eq_getElem hi, List.getElem_idxOf])
end Go.Proofs.Ytafpbdmggnfdnaa

/- The reference's Types of known nodes. -/
namespace Go.Proofs.Ytafpbdmggnfdnaa
open Go.RowKit Go.Maps
set_option linter.unusedVariables false

set_option maxRecDepth 100000 in
set_option maxHeartbeats 4000000 in
theorem rtypes_any {w : World} {v : Value} {ad : List (Option Addr × Nat)} {R : RS} {c d : Nat → Nat} (h : RSt w v ad R) (hi : RInv R c d) (A : Option Addr) (cap : Nat) (ns : List Nat) (hA : Nats w A ns) (hns : ∀ x ∈ ns, x < R.nodes.length) (hlen : ns.length ≤ 1000) (T : Fo) (hT : Stands R.nodes c idF ns T) :
    Calls Try.prog 17 #[.agg #[v], .slice A ns.length cap] w (RTypesPost w R c ns T) := by
  obtain ⟨A0, cap0, hv0, _, _⟩ := own_len h.own
  subst hv0
  have hm := h.many
  have hb1 : Below w.heap.size w (w.alloc (.cells #[.slice A0 R.nodes.length cap0] 29)) := (Below.refl _ _).alloc (Nat.le_refl _) _
  have hbox := heap_alloc_new w (.cells #[.slice A0 R.nodes.length cap0] 29)
  obtain ⟨W0, hW0⟩ : ∃ W0, w.alloc (.cells #[.slice A0 R.nodes.length cap0] 29) = W0 := ⟨_, rfl⟩
  rw [hW0] at hb1 hbox
  have HW0 := hide hW0; have Hb1 := hide hb1; have Hbox := hide hbox; have Hh := hide h; have HA := hide hA; have Hi := hide hi; have Hns := hide hns; have HT := hide hT
  have hw0 : w.heap.size < W0.heap.size := (Array.getElem?_eq_some_iff.1 hbox).1
  clear hW0 hb1 hbox h hA hi hns hT
  obtain ⟨i4, ki, kz0, kz1, kz2⟩ := info_parts tyInfo
  have Ki := hide ki; have Kz0 := hide kz0; have Kz1 := hide kz1; have Kz2 := hide kz2
  clear ki kz0 kz1 kz2
  go_enter Try.func17, Try.ntmps17
  go_wp2
  simp only [HW0.out]
  go_loopw [6] (fun vi wr => ∃ k : Nat, vi = .int .i64 k ∧ k ≤ ns.length ∧ Hid (Below W0.heap.size W0 wr)) (fun vi _ => ns.length - (intOf vi).toNat)
  case atStart => exact ⟨0, rfl, by omega, hide (Below.refl _ _)⟩
  case round =>
    obtain ⟨k, rfl, hk, HB⟩ := hrel
    have hwl : w.heap.size < wr.heap.size := by have := HB.out.size; omega
    have q0 := (HB.out.block _ hw0).trans Hbox.out
    have Hbw := hide (Hb1.out.trans (HB.out.mono (by omega)))
    have Hst := hide (Hh.out.later Hbw.out)
    obtain ⟨s0, t0⟩ := one_cell q0
    have Hq0 := hide q0
    clear q0
    by_cases hlt : k < ns.length
    · obtain ⟨b, off, rfl, hb, d0⟩ := HA.out.at_ k (by simpa [cast] using hlt)
      simp only [cast, List.getElem_map] at d0
      obtain ⟨x, hx⟩ : ∃ x, ns[k] = x := ⟨_, rfl⟩
      have d1 := (Hbw.out.cell (p := ⟨b, off + k, none⟩) hb).trans d0
      rw [hx] at d1
      have hxn : x < R.nodes.length := Hns.out x (by rw [← hx]; exact List.getElem_mem _)
      have HIs := hide (fun W (hW : RSt W (.slice A0 R.nodes.length cap0) ad R) => ris_any hW (x : Int))
      rw [show inB R.nodes.length (x : Int) = true by simp [inB]; omega] at HIs
      clear d0 hx
      have hbl : b < wr.heap.size := by omega
      have hwr1 : W0.heap.size ≤ wr.heap.size := HB.out.size
      go_wp2
      go_region_held3 (fun w' => w'.cell? ⟨w.heap.size, 0, none⟩ = some (.slice A0 R.nodes.length cap0) ∧ w'.cell? ⟨b, off + k, none⟩ = some (.int .i64 (x : Int))) (go_keep)
        (first | (go_at_call 39; refine (HIs.out _ (Hst.out.later (by first | exact Below.refl _ _ | exact (Below.refl _ _).drew))).mono ?_; rintro e w' ⟨rfl, hb'⟩; have r0 := (hb'.cell (p := ⟨w.heap.size, 0, none⟩) hwl).trans s0; have r1 := (hb'.cell (p := ⟨b, off + k, none⟩) hbl).trans d1))
      have Hb' := hide (HB.out.trans ((Below.refl _ _).drew.trans (hb'.mono hwr1)))
      clear s0 t0 d1 hb' r0 r1 hbl
      go_wp2
      go_roundw
      case measure => simp [intOf]; omega
      case rel => exact ⟨k + 1, by go_num, by omega, Hb'⟩
    · obtain rfl : k = ns.length := by omega
      clear HB hlt hk
      have hms := make_ints R.nodes.length hm
      go_upto_region 9 with fail
      obtain ⟨gs, hgs⟩ : ∃ gs, wr.heap.size = gs := ⟨_, rfl⟩
      have hz2 : (wr.alloc (.cells (zeroRow R.nodes.length) 3)).heap.size = gs + 1 := by rw [World.size_alloc, hgs]
      have harr : Arr (wr.alloc (.cells (zeroRow R.nodes.length) 3)) gs (List.replicate R.nodes.length 0) := by rw [← hgs]; exact Arr.made wr _ hm
      have hb2 : Below wr.heap.size wr (wr.alloc (.cells (zeroRow R.nodes.length) 3)) := (Below.refl _ _).alloc (Nat.le_refl _) _
      obtain ⟨W2, hW2⟩ : ∃ W2, wr.alloc (.cells (zeroRow R.nodes.length) 3) = W2 := ⟨_, rfl⟩
      rw [hW2] at hz2 harr hb2
      have hb3 : Below W2.heap.size W2 ((W2.alloc (.cells #[] 3)).alloc (.cells #[] 48)) := ((Below.refl _ _).alloc (Nat.le_refl _) _).alloc (by simp) _
      have HR0 : Hid (TsRel W2 gs R c ns T (.slice (some ⟨gs + 1, 0, none⟩) 0 0) (.slice (some ⟨gs + 1 + 1, 0, none⟩) 0 0) 0 ((W2.alloc (.cells #[] 3)).alloc (.cells #[] 48))) := by
        refine hide ⟨Only.of_below hb3 _, ⟨_, by simp, harr.keep (hb3.block gs (by omega)), knownOk_start _ _ _⟩, by simp, ⟨.nil, T, [], rfl, by simpa using Stands.nil, by simpa using HT.out, ?_, ?_, rfl⟩, ?_⟩
        · have := World.ownsRow_made (base := W2.heap.size) (e := 3) (size := 1) W2 #[] 0 (Nat.le_refl _) (Nat.zero_le _) rfl
          rw [hz2] at this ⊢
          exact this.alloc _
        · have := World.ownsRow_made (base := W2.heap.size) (e := 48) (size := 4) (W2.alloc (.cells #[] 3)) #[] 0 (by simp) (Nat.zero_le _) rfl
          rw [World.size_alloc, hz2] at this
          rw [hz2]
          exact this
        · intro b hb e; simp [Value.ownBlock] at hb e; omega
      have Hbw2 := hide (Hbw.out.trans (hb2.mono (by omega)))
      have HB2 := hide ((hb2.block w.heap.size hwl).trans Hq0.out)
      have hgs2 : gs < W2.heap.size := by omega
      have hwg : w.heap.size < gs := by omega
      simp only [hgs, hW2]
      clear hW2 hb2 harr hb3 s0 t0 Hbw Hst Hq0 hms
      rw [hgs] at hwl
      clear hgs hz2 hwl
      go_wp2
      go_loopw [8, 9, 10] (fun vm vr vi wr => ∃ i : Nat, vi = .int .i64 i ∧ i ≤ ns.length ∧ Hid (TsRel W2 gs R c ns T vm vr i wr)) (fun _ _ vi _ => ns.length - (intOf vi).toNat)
      case atStart => exact ⟨0, rfl, by omega, HR0⟩
      case round =>
        obtain ⟨i, rfl, hk, HRr⟩ := hrel
        clear HR0
        have hwr2 : W2.heap.size ≤ wr.heap.size := HRr.out.only.size
        have hw2 : w.heap.size < W2.heap.size := by omega
        have hwne : w.heap.size ≠ gs := by omega
        have q0 := (HRr.out.only.block _ hw2 hwne).trans HB2.out
        obtain ⟨s0, t0⟩ := one_cell q0
        have Hq0 := hide q0
        have Hbw := hide (Only.below_trans Hbw2.out HRr.out.only (fun k hk e => by omega) (by omega))
        have Hst := hide (Hh.out.later Hbw.out)
        obtain ⟨li, hli, hla, hlk⟩ := HRr.out.known
        obtain ⟨Ai, Ri, cs, hsp, hs1, hs2, hownM, hownR, hfo⟩ := HRr.out.parts
        have HownM := hide hownM; have HownR := hide hownR; have Hfo := hide hfo; have Hs1 := hide hs1
        clear q0 hownM hownR hfo hs1
        by_cases hlt : i < ns.length
        · obtain ⟨b, off, rfl, hb, d0⟩ := HA.out.at_ i (by simpa [cast] using hlt)
          simp only [cast, List.getElem_map] at d0
          obtain ⟨x, hx⟩ : ∃ x, ns[i] = x := ⟨_, rfl⟩
          have d1 := (Hbw.out.cell (p := ⟨b, off + i, none⟩) hb).trans d0
          rw [hx] at d1
          have hxm : x ∈ ns := by rw [← hx]; exact List.getElem_mem _
          have hxn : x < R.nodes.length := Hns.out x hxm
          rw [List.drop_eq_getElem_cons hlt, hx, show x :: ns.drop (i + 1) = [x] ++ ns.drop (i + 1) from rfl] at hs2
          obtain ⟨B, R', hRR, hsB, hsR⟩ := hs2.split
          have HS := hide (fun W (hW : Below wr.heap.size wr W) => rsize_any Hi.out gs (fun e => by have := Hh.out.lt _ e; omega) (fun j a ha z hz' e => by have := Hh.out.adlt j a ha z hz'; omega) _ x B li W (Nat.le_refl _) hxn hli hsB (Hst.out.later hW) (hla.keep (hW.block gs hla.lt)) hlk)
          rw [hli] at HS
          have HTy := hide (fun W (hW : RSt W (.slice A0 R.nodes.length cap0) ad R) => rtyp_any Hi.out _ x B W (Nat.le_refl _) hxn hsB hW)
          have HsB := hide hsB; have Hxm := hide hxm; have HRR := hide hRR; have HsR := hide hsR; have Hsp := hide hsp; have Hx := hide hx
          obtain ⟨sB, hsBe⟩ : ∃ s, capped B.cnt = s := ⟨_, rfl⟩
          have HsBe := hide hsBe
          have lw : w.heap.size < wr.heap.size := by omega
          have lb : b < wr.heap.size := by omega
          have hbg : b ≠ gs := by omega
          clear d0 hx hs2 hRR hsB hsR hsp hsBe hla hlk hxm
          go_wp2
          go_region_held3 (fun w' => w'.cell? ⟨w.heap.size, 0, none⟩ = some (.slice A0 R.nodes.length cap0) ∧ w'.cell? ⟨b, off + i, none⟩ = some (.int .i64 (x : Int))) (go_keep)
            (first | (go_at_call 40; refine (HS.out _ (by first | exact Below.refl _ _ | exact (Below.refl _ _).drew)).mono ?_; rintro e w' ⟨rfl, ho', hl'⟩; have r0 := (ho'.cell (p := ⟨w.heap.size, 0, none⟩) lw hwne).trans s0; have r1 := (ho'.cell (p := ⟨b, off + i, none⟩) lb hbg).trans d1; rw [HsBe.out]))
          rename_i hHeld
          have hb5 : Below wr.heap.size wr wr.drew := (Below.refl _ _).drew
          have Ho5 : Hid (Only (fun b => b = gs) wr w') := hide ((Only.of_below hb5 _).trans ho')
          have Hl5 := hide hl'
          clear hHeld hb5 ho' hl' s0 t0 d1
          have hz5 : wr.heap.size ≤ w'.heap.size := Ho5.out.size
          by_cases hfit : B.cnt ≤ 300
          · have hsb : sB ≤ 300 := by have := HsBe.out; unfold capped at this; rw [if_pos hfit] at this; omega
            have k1 : decide ((300 : Int) < (sB : Int)) = false := by simp; omega
            have k2 : decide (300 < sB) = false := by simp; omega
            have Hst5 := hide (Hst.out.only Ho5.out (fun b hb e => by have := Hh.out.lt b hb; omega) (fun i a ha z hz e => by have := Hh.out.adlt i a ha z hz; omega))
            have m0 : w.heap.size < w'.heap.size := by omega
            have mb : b < w'.heap.size := by omega
            go_upto_region 14 with fail
            go_cut [11] from 48 to 54 (fun u11 wx => ∃ (bx : Nat) (kd nu : Int) (sn : ByteArray) (A5 : Option Addr) (n5 c5 : Nat), u11 = .pointer (some ⟨bx, 0, none⟩) ∧ Hid (NewTy w' wx bx kd nu sn A5 n5 c5 B))
            case first =>
              --R14
              refine wp_region_noPanic ?_
              refine wp_region_held_drew (S := fun w' => w'.cell? ⟨w.heap.size, 0, none⟩ = some (.slice A0 R.nodes.length cap0) ∧ w'.cell? ⟨b, off + i, none⟩ = some (.int .i64 (x : Int))) (by kernel_rfl) ⟨r0, r1⟩ (fun hHeld => ?_)
              refine wpAnyH_take (i := 0) (oi := _) (v := ?_) rfl (by kernel_rfl) (by kernel_rfl) (by kernel_rfl) (fun _ _ _ h => h) (Or.inl ⟨by rfl, ?_⟩) hHeld ?_
              rotate_left
              · intro w' hSw
                obtain ⟨hS0, hS1⟩ := hSw
                go_simp
                try (with_reducible rfl)
              try simp only [List.getElem_toArray, List.getElem_cons_zero, List.getElem_cons_succ, Act.put, List.setIfInBounds_toArray, List.set_cons_zero, List.set_cons_succ]
              refine wpAnyH_take (i := 1) (oi := _) (v := ?_) rfl (by kernel_rfl) (by kernel_rfl) (by kernel_rfl) (fun _ _ _ h => h) (Or.inl ⟨by rfl, ?_⟩) hHeld ?_
              rotate_left
              · intro w' hSw
                obtain ⟨hS0, hS1⟩ := hSw
                go_simp
                try (with_reducible rfl)
              try simp only [List.getElem_toArray, List.getElem_cons_zero, List.getElem_cons_succ, Act.put, List.setIfInBounds_toArray, List.set_cons_zero, List.set_cons_succ]
              refine wpAnyH_take (i := 2) (oi := _) (v := ?_) rfl (by kernel_rfl) (by kernel_rfl) (by kernel_rfl) (fun _ _ _ h => h) (Or.inl ⟨by rfl, ?_⟩) hHeld ?_
              rotate_left
              · intro w' hSw
                obtain ⟨hS0, hS1⟩ := hSw
                go_simp
                try (with_reducible rfl)
              try simp only [List.getElem_toArray, List.getElem_cons_zero, List.getElem_cons_succ, Act.put, List.setIfInBounds_toArray, List.set_cons_zero, List.set_cons_succ]
              refine wpAnyH_take (i := 3) (oi := _) (v := ?_) rfl (by kernel_rfl) (by kernel_rfl) (by kernel_rfl) (fun _ _ _ h => h) (Or.inl ⟨by rfl, ?_⟩) hHeld ?_
              rotate_left
              · intro w' hSw
                obtain ⟨hS0, hS1⟩ := hSw
                go_simp
                try (with_reducible rfl)
              try simp only [List.getElem_toArray, List.getElem_cons_zero, List.getElem_cons_succ, Act.put, List.setIfInBounds_toArray, List.set_cons_zero, List.set_cons_succ]
              refine wpAnyH_take (i := 4) (oi := _) (v := ?_) rfl (by kernel_rfl) (by kernel_rfl) (by kernel_rfl) (fun _ _ _ h => h) (Or.inl ⟨by rfl, ?_⟩) hHeld ?_
              rotate_left
              · intro w' hSw
                obtain ⟨hS0, hS1⟩ := hSw
                go_simp
                try (with_reducible rfl)
              try simp only [List.getElem_toArray, List.getElem_cons_zero, List.getElem_cons_succ, Act.put, List.setIfInBounds_toArray, List.set_cons_zero, List.set_cons_succ]
              refine wpAnyH_ready (rs := [5, 6]) (by kernel_rfl) (by simp) ?_
              refine AllReadyH.cons (o := _) rfl (fun K hK => ?_) (AllReadyH.cons (o := _) rfl (fun K hK => ?_) AllReadyH.nil)
              · go_simp
                refine (HTy.out _ (Hst5.out.later (Below.refl _ _).drew)).mono ?_
                rintro e w3 ⟨kd, nu, sn, A5, n5, c5, rfl, hfo3, hb3⟩
                have Hn := hide (newTy_a ((Below.refl w'.heap.size w').drew.trans hb3) hfo3)
                have q0 := (hb3.cell (p := ⟨w.heap.size, 0, none⟩) m0).trans r0
                have q1 := (hb3.cell (p := ⟨b, off + i, none⟩) mb).trans r1
                have hz3 := hb3.size
                clear hfo3 hHeld
                go_wp2_with fail
                refine hK.out _ _ ⟨q0, q1⟩ (fun hHeld => ?_)
                clear hK K
                try simp only [List.getElem_toArray, List.getElem_cons_zero, List.getElem_cons_succ, Act.put, List.setIfInBounds_toArray, List.set_cons_zero, List.set_cons_succ]
                refine wpAnyH_ready (rs := [6]) (by kernel_rfl) (by simp) ?_
                refine AllReadyH.cons (o := _) rfl (fun K hK => ?_) AllReadyH.nil
                go_simp
                clear hHeld
                have p0 := (World.cell?_alloc_lt w3 (.cells #[.int .i64 0, .int .i64 0, .string ⟨#[]⟩, .slice none 0 0] 48) ⟨w.heap.size, 0, none⟩ (Nat.lt_of_lt_of_le m0 hz3)).trans q0
                have p1 := (World.cell?_alloc_lt w3 (.cells #[.int .i64 0, .int .i64 0, .string ⟨#[]⟩, .slice none 0 0] 48) ⟨b, off + i, none⟩ (Nat.lt_of_lt_of_le mb hz3)).trans q1
                refine hK.out _ _ ⟨p0, p1⟩ (fun hHeld => ?_)
                clear hK K
                try simp only [List.getElem_toArray, List.getElem_cons_zero, List.getElem_cons_succ, Act.put, List.setIfInBounds_toArray, List.set_cons_zero, List.set_cons_succ]
                refine wpAnyH_ready (rs := [7]) (by kernel_rfl) (by simp) ?_
                refine AllReadyH.cons (o := _) rfl (fun K hK => ?_) AllReadyH.nil
                go_simp
                clear hHeld
                have p0 := (World.cell?_alloc_lt w3 (.cells #[.int .i64 kd, .int .i64 nu, .string sn, .slice A5 n5 c5] 48) ⟨w.heap.size, 0, none⟩ (Nat.lt_of_lt_of_le m0 hz3)).trans q0
                have p1 := (World.cell?_alloc_lt w3 (.cells #[.int .i64 kd, .int .i64 nu, .string sn, .slice A5 n5 c5] 48) ⟨b, off + i, none⟩ (Nat.lt_of_lt_of_le mb hz3)).trans q1
                refine hK.out _ _ ⟨p0, p1⟩ (fun hHeld => ?_)
                clear hK K
                try simp only [List.getElem_toArray, List.getElem_cons_zero, List.getElem_cons_succ, Act.put, List.setIfInBounds_toArray, List.set_cons_zero, List.set_cons_succ]
                refine wpAnyH_done (by kernel_rfl) ?_ _
                refine NoPanic.normal ?_
                go_wp2_with fail
                refine Met.intro ?_
                go_step
                exact ⟨_, _, _, _, _, _, _, _, ⟨_, _, _, _, _, _, _, rfl, Hn⟩, rfl⟩
              · go_simp
                clear hHeld
                have p0 := (World.cell?_alloc_lt w' (.cells #[.int .i64 0, .int .i64 0, .string ⟨#[]⟩, .slice none 0 0] 48) ⟨w.heap.size, 0, none⟩ m0).trans r0
                have p1 := (World.cell?_alloc_lt w' (.cells #[.int .i64 0, .int .i64 0, .string ⟨#[]⟩, .slice none 0 0] 48) ⟨b, off + i, none⟩ mb).trans r1
                refine hK.out _ _ ⟨p0, p1⟩ (fun hHeld => ?_)
                clear hK K
                try simp only [List.getElem_toArray, List.getElem_cons_zero, List.getElem_cons_succ, Act.put, List.setIfInBounds_toArray, List.set_cons_zero, List.set_cons_succ]
                refine wpAnyH_ready (rs := [5]) (by kernel_rfl) (by simp) ?_
                refine AllReadyH.cons (o := _) rfl (fun K hK => ?_) AllReadyH.nil
                go_simp
                refine (HTy.out _ (Hst5.out.later (((Below.refl _ _).alloc (Nat.le_refl _) _).drew))).mono ?_
                rintro e w3 ⟨kd, nu, sn, A5, n5, c5, rfl, hfo3, hb3⟩
                have hb4 : Below (w'.heap.size + 1) (w'.alloc (.cells #[.int .i64 0, .int .i64 0, .string ⟨#[]⟩, .slice none 0 0] 48)) w3 := (Below.refl _ _).drew.trans (hb3.mono (by simp))
                have Hn := hide (newTy_b hb4 (FoCells.keep _ hfo3 (fun b hb => by simpa using hb) (fun _ _ => rfl)))
                obtain ⟨c0, c1, c2, c3, cf⟩ := four_cells ((hb4.block w'.heap.size (by omega)).trans (heap_alloc_new w' _))
                have f0 := cf 0; have f1 := cf 1; have f2 := cf 2; have f3 := cf 3
                have q0 := (hb4.cell (p := ⟨w.heap.size, 0, none⟩) (by simp only; omega)).trans p0
                have q1 := (hb4.cell (p := ⟨b, off + i, none⟩) (by simp only; omega)).trans p1
                clear hfo3 hHeld cf p0 p1
                go_wp2_with fail
                refine hK.out _ _ ⟨q0, q1⟩ (fun hHeld => ?_)
                clear hK K
                try simp only [List.getElem_toArray, List.getElem_cons_zero, List.getElem_cons_succ, Act.put, List.setIfInBounds_toArray, List.set_cons_zero, List.set_cons_succ]
                refine wpAnyH_ready (rs := [7]) (by kernel_rfl) (by simp) ?_
                refine AllReadyH.cons (o := _) rfl (fun K hK => ?_) AllReadyH.nil
                go_simp
                clear hHeld
                have p0 := (World.cell?_of_block (a := ⟨w.heap.size, 0, none⟩) (set4_other w3 w'.heap.size (.int .i64 kd) (.int .i64 nu) (.string sn) (.slice A5 n5 c5) w.heap.size (by omega))).trans q0
                have p1 := (World.cell?_of_block (a := ⟨b, off + i, none⟩) (set4_other w3 w'.heap.size (.int .i64 kd) (.int .i64 nu) (.string sn) (.slice A5 n5 c5) b (by omega))).trans q1
                refine hK.out _ _ ⟨p0, p1⟩ (fun hHeld => ?_)
                clear hK K
                try simp only [List.getElem_toArray, List.getElem_cons_zero, List.getElem_cons_succ, Act.put, List.setIfInBounds_toArray, List.set_cons_zero, List.set_cons_succ]
                refine wpAnyH_done (by kernel_rfl) ?_ _
                refine NoPanic.normal ?_
                go_wp2_with fail
                refine Met.intro ?_
                go_step
                exact ⟨_, _, _, _, _, _, _, _, ⟨_, _, _, _, _, _, _, rfl, Hn⟩, rfl⟩
              --R14END
            case rest =>
              obtain ⟨bx, kd, nu, sn, A5, n5, c5, rfl, HN⟩ := hcut
              have hzc : w'.heap.size ≤ wc.heap.size := HN.out.below.size
              have hbx : w'.heap.size ≤ bx := HN.out.le
              have ownM5 := own_keep (own_only HownM.out Ho5.out (fun b hb e => by have := (HownM.out.lt b hb).1; omega)) (fun b hb => HN.out.below.block b (by have := (HownM.out.lt b hb).2; omega))
              have ownR5 := own_keep (own_only HownR.out Ho5.out (fun b hb e => by have := (HownR.out.lt b hb).1; omega)) (fun b hb => HN.out.below.block b (by have := (HownR.out.lt b hb).2; omega))
              have hcnt : Ai.cnt ≤ 300 * i := by
                have := Hs1.out.cnt_le HRr.out.fits
                have h2 : (ns.take i).length ≤ i := List.length_take_le _ _
                have h3 : 300 * (ns.take i).length ≤ 300 * i := Nat.mul_le_mul_left _ h2
                omega
              have hvl := Fo.vars_len Ai
              have hvb := Fo.vars_len B
              have hal := addNew_len [] Ai.vars
              have HC := hide (rvars_any (fun b => w'.heap.size ≤ b ∧ b < wc.heap.size ∧ b ≠ bx) W2.heap.size B.cnt B (addNew [] Ai.vars) u8 wc kd nu sn A5 n5 c5 HsB.out.proper (Nat.le_refl _) (by omega) (by simp at hal; omega) (by omega) (fun b hb => ⟨hb.2.1, fun e => by have := (HownM.out.lt b e).2; have := hb.1; omega⟩) ownM5 HN.out.fo)
              obtain ⟨x0, x1, x2, x3, -⟩ := four_cells HN.out.box
              obtain ⟨A8, c8, hv8, -, -⟩ := own_len HownM.out
              obtain ⟨A9, c9, hv9, -, -⟩ := own_len HownR.out
              have hne8 : u8.ownBlock ≠ some bx := fun e => by have := (HownM.out.lt bx e).2; omega
              have hlbx : bx < wc.heap.size := (Array.getElem?_eq_some_iff.1 HN.out.box).1
              have HownM5 := hide ownM5; have HownR5 := hide ownR5
              clear hcnt hvl hvb hal ownM5 ownR5 Hst5 HS HTy Hst hv8 hv9 k1 k2 r0 r1
              go_wp2_with fail
              refine HC.out.mono ?_
              rintro e W4 ⟨vm4, rfl, ho4, hon4, hat4⟩
              have y0 := (hon4.cell (p := ⟨bx, 0, none⟩) hlbx hne8).trans x0
              have y1 := (hon4.cell (p := ⟨bx, 1, none⟩) hlbx hne8).trans x1
              have y2 := (hon4.cell (p := ⟨bx, 2, none⟩) hlbx hne8).trans x2
              have y3 := (hon4.cell (p := ⟨bx, 3, none⟩) hlbx hne8).trans x3
              have ownR4 := own_only HownR5.out hon4 (fun b hb e => HRr.out.apart b e hb)
              have O4 := hide (ownR4.alloc (.cells #[.int .i64 kd, .int .i64 nu, .string sn, .slice A5 n5 c5] 48))
              have N4 := hide (four_new W4 (.int .i64 kd) (.int .i64 nu) (.string sn) (.slice A5 n5 c5) 48)
              have E4 : Hid (∀ u ∈ [Value.int .i64 kd, .int .i64 nu, .string sn, .slice A5 n5 c5], u.oneCell' = true) := hide (by simp [Value.oneCell'])
              have hz4 : wc.heap.size ≤ W4.heap.size := hon4.size
              have Ho4 := hide ho4; have Hon4 := hide hon4; have Hat4 := hide hat4
              clear ownR4 ho4 hon4 hat4 HC x0 x1 x2 x3 hne8
              go_wp2_with (at_builtin; refine wpList_append_own_at _ rfl (.tmp 58) (.tmp 60) 34 rfl W2.heap.size 48 i4 (.agg #[.int .i64 0, .int .i64 0, .string ByteArray.empty, .slice none 0 0]) 4 56 Try.underlying34 Ki.out Kz0.out Kz1.out Kz2.out rfl (by decide) u9 i cs rfl O4.out ⟨W4.heap.size, 0, none⟩ 1 1 [.int .i64 kd, .int .i64 nu, .string sn, .slice A5 n5 c5] rfl rfl N4.out E4.out (by simp only [maxLen]; omega) (by omega) (by simp; omega) ?_; intro v6 W6 own6 grow6 nil6 at6; clear nil6; have Hown6 := hide own6; have Hgrow6 := hide grow6; have Hat6 := hide at6; clear own6 grow6 at6)
              have HNx : Hid (TsRel W2 gs R c ns T vm4 v6 (i + 1) W6) := hide (tsrel_next hgs2 HRr.out.only HRr.out.fits HRr.out.apart Hsp.out Hs1.out HRR.out HsB.out HsR.out hlt Hx.out hfit HownM.out HownR.out Hfo.out Ho5.out Hl5.out HN.out Hon4.out Ho4.out Hat4.out Hgrow6.out Hown6.out Hat6.out)
              go_roundw
              case measure => simp [intOf]; omega
              case rel => exact ⟨i + 1, by go_num, by omega, HNx.out⟩
          · have hsb : sB = 301 := by have := HsBe.out; unfold capped at this; rw [if_neg hfit] at this; omega
            subst hsb
            have Hb6 := hide (Only.below_trans Hbw.out Ho5.out (fun k _ e => by omega) (by omega))
            go_wp2
            exact bodyPost_ret (v := .tuple #[.slice none 0 0, .int .i64 120]) (by simp [results, Try.results17, go_sem]) rfl ⟨fun hf => absurd (hf x Hxm.out B HsB.out) hfit, fun _ => ⟨rfl, Hb6.out⟩⟩
        · obtain rfl : i = ns.length := by omega
          obtain rfl : T = Ai := by
            rw [List.drop_of_length_le (Nat.le_refl _)] at hs2
            cases hs2
            rw [hsp, Fo.app_nil]
          have HFits := hide HRr.out.fits
          obtain ⟨A8, c8, rfl, hN8, hl8⟩ := nats_of_own HownM.out
          have hTl : T.len = ns.length := HT.out.len
          have hcnt : T.cnt ≤ 300 * ns.length := HT.out.cnt_le (by
            have := HRr.out.fits
            rwa [List.take_of_length_le (Nat.le_refl _)] at this)
          obtain ⟨A9, c9, rfl, hF9⟩ := fo_of_own (P := fun b => b < wr.heap.size) (by rw [hTl]; exact HownR.out) (FoCells.keep _ Hfo.out (fun b hb => hb.2.1) (fun _ _ => rfl)) (fun b hb => (HownR.out.lt b hb).2)
          rw [hTl]
          have hvlen : (addNew [] T.vars).length ≤ 1000000 := by
            have h1 := addNew_len [] T.vars
            have h2 := Fo.vars_len T
            simp at h1; omega
          have Hnd : Hid ((addNew [] T.vars).Nodup) := hide (addNew_nodup _ _ (by simp))
          have Hmv : Hid (∀ v ∈ addNew [] T.vars, v < R.nodes.length) := hide (fun v hv => by
            rcases (addNew_mem _ _ _).1 hv with h | h
            · simp at h
            · exact (HT.out.roots Hi.out.wf (fun i hi => ⟨(Hi.out.root i hi).1, (Hi.out.root i hi).2.2⟩) Hns.out v h).1)
          have HN8 := hide hN8; have Hl8 := hide hl8; have HF9 := hide hF9; have HTl := hide hTl
          obtain ⟨met, hmet⟩ : ∃ met, addNew [] T.vars = met := ⟨_, rfl⟩
          rw [hmet] at HN8 Hnd Hmv hvlen HownM ⊢
          have Hmet := hide hmet
          have hms := make_ints R.nodes.length hm
          clear hN8 hl8 hF9 hTl hmet hs2 hsp Hs1 hla hlk hli hlt hk
          go_upto_region 18 with fail
          obtain ⟨ga, hga⟩ : ∃ ga, wr.heap.size = ga := ⟨_, rfl⟩
          have hz7 : (wr.alloc (.cells (zeroRow R.nodes.length) 3)).heap.size = ga + 1 := by rw [World.size_alloc, hga]
          have harr : Arr (wr.alloc (.cells (zeroRow R.nodes.length) 3)) ga (List.replicate R.nodes.length 0) := by rw [← hga]; exact Arr.made wr _ hm
          have hb7 : Below wr.heap.size wr (wr.alloc (.cells (zeroRow R.nodes.length) 3)) := (Below.refl _ _).alloc (Nat.le_refl _) _
          obtain ⟨W7, hW7⟩ : ∃ W7, wr.alloc (.cells (zeroRow R.nodes.length) 3) = W7 := ⟨_, rfl⟩
          rw [hW7] at hz7 harr hb7
          have HA0 : Hid (AtRel W7 ga R.nodes.length met 0 (List.replicate R.nodes.length 0) W7) := hide ⟨Only.refl _ _, by simp, harr, fun k v hk => by omega⟩
          simp only [hga, hW7]
          have ge1 : wr.heap.size ≤ ga := by omega
          have ge2 : ga ≤ wr.heap.size := by omega
          have ge3 : ga < W7.heap.size := by omega
          have Hb7 := hide hb7; have Hz7 := hide hz7
          clear hga hW7 harr hb7 hz7 s0 t0 hms Hq0 Hst HownM HownR Hfo
          obtain ⟨wo, rfl⟩ : ∃ wo : World, wo = wr := ⟨_, rfl⟩
          go_wp2
          go_loopw [13] (fun vj wx => ∃ (j : Nat) (l : List Nat), vj = .int .i64 j ∧ j ≤ met.length ∧ Hid (AtRel W7 ga R.nodes.length met j l wx)) (fun vj _ => met.length - (intOf vj).toNat)
          case atStart => exact ⟨0, _, rfl, by omega, HA0⟩
          case round =>
            obtain ⟨j, l, rfl, hj, HAr⟩ := hrel
            clear HA0
            have hbx : Below wo.heap.size wo wr := Hb7.out.trans (HAr.out.only.below (by have := Hb7.out.size; omega) (fun b _ e => by omega))
            by_cases hlt : j < met.length
            · obtain ⟨b, off, rfl, hb, d0⟩ := HN8.out.at_ j (by simpa [cast] using hlt)
              simp only [cast, List.getElem_map] at d0
              obtain ⟨v, hv⟩ : ∃ v, met[j] = v := ⟨_, rfl⟩
              have d1 := (hbx.cell (p := ⟨b, off + j, none⟩) hb).trans d0
              rw [hv] at d1
              have hvn : v < R.nodes.length := Hmv.out v (by rw [← hv]; exact List.getElem_mem _)
              have Hv : Hid (met[j]? = some v) := hide (by rw [List.getElem?_eq_getElem hlt, hv])
              have e1 := HAr.out.arr.cell v (by rw [HAr.out.len]; exact hvn)
              have f1 := HAr.out.arr.free v
              have Hbx := hide hbx
              clear hv d0 hbx
              go_wp2
              have HNx : Hid (AtRel W7 ga R.nodes.length met (j + 1) (l.set v j) (wr.setCell ⟨ga, v, none⟩ (.int .i64 (j : Int)))) := hide (atrel_next HAr.out Hnd.out Hv.out hvn)
              go_roundw
              case measure => simp [intOf]; omega
              case rel => exact ⟨j + 1, _, by go_num, by omega, HNx⟩
            · obtain rfl : j = met.length := by omega
              have Hren : Hid (T.mapv (par l) = ren T) := hide (by
                have := HAr.out
                rw [← Hmet.out] at this
                exact atrel_ren this)
              have Hvl : Hid (∀ v ∈ T.vars, v < l.length) := hide (fun v hv => by
                rw [HAr.out.len]
                exact Hmv.out v (by rw [← Hmet.out]; exact (addNew_mem _ _ _).2 (.inr hv)))
              have HPr := hide HT.out.proper
              have Hbx := hide hbx
              have hTc : T.cnt ≤ 1000000 := by omega
              clear hbx hlt hj
              go_upto_region 23 with fail
              obtain ⟨wz, rfl⟩ : ∃ wz : World, wz = wr := ⟨_, rfl⟩
              obtain ⟨W9, hW9⟩ : ∃ W9, wz.alloc (.cells #[] 48) = W9 := ⟨_, rfl⟩
              have HR9 : Hid (NmRel wz (par l) T (.slice (some ⟨wz.heap.size, 0, none⟩) 0 0) 0 W9) := hide ⟨by rw [← hW9]; exact (Below.refl _ _).alloc (Nat.le_refl _) _, [], by
                rw [← hW9]
                exact World.ownsRow_made (base := wz.heap.size) (e := 48) (size := 4) wz #[] 0 (Nat.le_refl _) (Nat.zero_le _) rfl, by rw [Fo.takeF_zero]; rfl⟩
              simp only [hW9]
              clear hW9
              go_wp2
              go_loopw [14, 15] (fun vo vi wx => ∃ i : Nat, vi = .int .i64 i ∧ i ≤ ns.length ∧ Hid (NmRel wz (par l) T vo i wx)) (fun _ vi _ => ns.length - (intOf vi).toNat)
              case atStart => exact ⟨0, rfl, by omega, HR9⟩
              case round =>
                obtain ⟨j, rfl, hj, HRn⟩ := hrel
                clear HR9
                obtain ⟨cs9, hown, hfo⟩ := HRn.out.parts
                have Hown := hide hown; have Hfo := hide hfo
                clear hown hfo
                by_cases hlt : j < ns.length
                · obtain ⟨b, off, kx, nx, sx, Bx, mx, cx, rfl, hb, p0, p1, p2, p3, hfx⟩ := HF9.out.nth j (by rw [HTl.out]; exact hlt)
                  have hbw : Below wo.heap.size wo wr := Hbx.out.trans (HRn.out.below.mono Hbx.out.size)
                  have p0 := (hbw.cell (p := ⟨b, off + j * 4, none⟩) hb).trans p0
                  have p1 := (hbw.cell (p := ⟨b, off + j * 4 + 1, none⟩) hb).trans p1
                  have p2 := (hbw.cell (p := ⟨b, off + j * 4 + 2, none⟩) hb).trans p2
                  have p3 := (hbw.cell (p := ⟨b, off + j * 4 + 3, none⟩) hb).trans p3
                  have hc0 := rnum_any (fun b => b < wo.heap.size) ga l (by rw [HAr.out.len]; exact hm) T.cnt (T.nth j) wr kx nx sx Bx mx cx (T.nth_proper j HPr.out) (T.nth_cnt j) (Nat.le_trans (T.nth_cnt j) hTc) (fun b' hb' => Nat.lt_of_lt_of_le hb' hbw.size) (fun v hv => Hvl.out v (T.nth_vars j v hv)) (HAr.out.arr.keep (HRn.out.below.block ga HAr.out.arr.lt)) (FoCells.keep _ hfx (fun _ h => h) (fun p hp => hbw.cell hp))
                  rw [HAr.out.len] at hc0
                  have HC := hide hc0
                  have Htake : Hid ((T.takeF (j + 1)).mapv (par l) = ((T.takeF j).mapv (par l)).app ((T.nth j).mapv (par l))) := hide (by rw [T.takeF_succ j (by rw [HTl.out]; exact hlt), Fo.mapv_app])
                  clear hfx hb hbw hc0
                  go_wp2_with fail
                  refine HC.out.mono ?_
                  rintro e W3 ⟨ke, ne, sn, A5, n5, c5, rfl, hfo3, hb3⟩
                  have own3 := own_keep Hown.out (fun b hb => hb3.block b (Hown.out.lt b hb).2)
                  have hbW : Below wz.heap.size wz W3 := HRn.out.below.trans (hb3.mono HRn.out.below.size)
                  have O4 := hide (own3.alloc (.cells #[.int .i64 ke, .int .i64 ne, .string sn, .slice A5 n5 c5] 48))
                  have N4 := hide (four_new W3 (.int .i64 ke) (.int .i64 ne) (.string sn) (.slice A5 n5 c5) 48)
                  have E4 : Hid (∀ u ∈ [Value.int .i64 ke, .int .i64 ne, .string sn, .slice A5 n5 c5], u.oneCell' = true) := hide (by simp [Value.oneCell'])
                  have Hb4 := hide (hbW.alloc hbW.size (.cells #[.int .i64 ke, .int .i64 ne, .string sn, .slice A5 n5 c5] 48))
                  have hz4 : wz.heap.size ≤ W3.heap.size := hbW.size
                  have Hb3 := hide hb3; have Hfo3 := hide hfo3
                  have hw2 : wz.heap.size ≤ wr.heap.size := HRn.out.below.size
                  clear own3 hbW hb3 hfo3 HC
                  go_wp2_with (at_builtin; refine wpList_append_own_at _ rfl (.tmp 86) (.tmp 93) 34 rfl wz.heap.size 48 i4 (.agg #[.int .i64 0, .int .i64 0, .string ByteArray.empty, .slice none 0 0]) 4 56 Try.underlying34 Ki.out Kz0.out Kz1.out Kz2.out rfl (by decide) u14 j cs9 rfl O4.out ⟨W3.heap.size, 0, none⟩ 1 1 [.int .i64 ke, .int .i64 ne, .string sn, .slice A5 n5 c5] rfl rfl N4.out E4.out (by simp only [maxLen]; omega) (by omega) (by simp; omega) ?_; intro v6 W6 own6 grow6 nil6 at6; clear nil6; have Hown6 := hide own6; have Hgrow6 := hide grow6; have Hat6 := hide at6; clear own6 grow6 at6)
                  go_roundw
                  case measure => simp [intOf]; omega
                  case rel =>
                    refine ⟨j + 1, by go_num, by omega, hide ⟨Hb4.out.grown Hgrow6.out (by simp; omega) (fun b hb => (Hown.out.lt b hb).1), _, Hown6.out, ?_⟩⟩
                    have hs6 := Hgrow6.out.size
                    rw [World.size_alloc] at hs6
                    have hsz3 := Hb3.out.size
                    have hsz4 : (W3.alloc (.cells #[.int .i64 ke, .int .i64 ne, .string sn, .slice A5 n5 c5] 48)).heap.size = W3.heap.size + 1 := World.size_alloc _ _
                    have hcell : ∀ p : Addr, p.block < W3.heap.size → u14.ownBlock ≠ some p.block → W6.cell? p = W3.cell? p := fun p hp hne => (Hgrow6.out.cell_far p (by rw [hsz4]; omega) (fun e1 => hne e1.symm)).trans (World.cell?_alloc_lt W3 _ p hp)
                    have hold : ∀ b, u14.ownBlock = some b → b < wr.heap.size := fun b hb => (Hown.out.lt b hb).2
                    have hv6 : ∀ b, b < W3.heap.size → u14.ownBlock ≠ some b → v6.ownBlock ≠ some b := by
                      intro b hb hne e1
                      rcases Hat6.out with e2 | e2
                      · rw [e2] at e1; exact hne e1
                      · rw [e2, hsz4] at e1; injection e1 with e1; omega
                    rw [Htake.out]
                    refine FoCells.app _ (FoCells.keep _ Hfo3.out ?_ ?_) (FoCells.keep _ Hfo.out ?_ ?_)
                    · intro b hb
                      exact ⟨by omega, by omega, hv6 b hb.2 (fun e1 => by have := hold b e1; omega)⟩
                    · intro p hp
                      exact hcell p hp.2 (fun e1 => by have := hold _ e1; omega)
                    · intro b hb
                      exact ⟨hb.1, by omega, hv6 b (by omega) hb.2.2⟩
                    · intro p hp
                      exact (hcell p (by omega) hp.2.2).trans (Hb3.out.cell hp.2.1)
                · obtain rfl : j = ns.length := by omega
                  obtain ⟨A6, cap6, hv8, -, -⟩ := own_len Hown.out
                  subst hv8
                  have Hfin : Hid (FoAt wr (fun b => w.heap.size ≤ b ∧ b < wr.heap.size) A6 (ren T) ∧ Below w.heap.size w wr) := by
                    refine hide ⟨?_, ?_⟩
                    · have h1 := Hfo.out
                      rw [← HTl.out, Fo.takeF_all, Hren.out] at h1
                      have h2 := Hown.out
                      have h3 : (ren T).len = ns.length := by unfold ren; rw [Fo.len_mapv, HTl.out]
                      rw [← h3] at h2
                      have hz1 := Hbx.out.size; have hz2 := HRn.out.below.size; have hz3 := Hbw.out.size
                      obtain ⟨A7, c7, he7, hat7⟩ := fo_of_own (P := fun b => w.heap.size ≤ b ∧ b < wr.heap.size) h2 (FoCells.keep _ h1 (fun b hb => ⟨by omega, hb.2.1⟩) (fun _ _ => rfl)) (fun b hb => by have := h2.lt b hb; omega)
                      injection he7 with he7
                      rw [he7]; exact hat7
                    · exact (Hbw.out.trans (Hbx.out.mono Hbw.out.size)).trans (HRn.out.below.mono (by have := Hbx.out.size; have := Hbw.out.size; omega))
                  have Hfits2 : Hid (∀ x ∈ ns, ∀ B, Stands R.nodes c idF [x] B → B.cnt ≤ 300) := hide (by
                    have := HFits.out
                    rwa [List.take_of_length_le (Nat.le_refl _)] at this)
                  go_wp2
                  go_ret2
                  refine ⟨fun _ => ⟨A6, cap6, rfl, Hfin.out.1, Hfin.out.2⟩, ?_⟩
                  rintro ⟨x, hx, B, hB, h3⟩
                  have := Hfits2.out x hx B hB
                  omega
end Go.Proofs.Ytafpbdmggnfdnaa

/- The reference's Alike. -/
namespace Go.Proofs.Ytafpbdmggnfdnaa
open Go.RowKit
set_option linter.unusedVariables false

/-- No variable has become anything: told by the roots. -/
theorem still_iff {R R' : RS} {c d c' d' : Nat → Nat} (hi : RInv R c d) (hi' : RInv R' c' d') (hn : R'.nodes = R.nodes) (hr : Resp R.nodes.length c c') (hro : ∀ i, c' i = i → c i = i) :
    Still R.nodes c c' ↔ ∀ i, i < R.nodes.length → (∀ p, R.nodes[i]? = some p → p.kind = 1) → c i = i → c' i = i := by
  constructor
  · intro hs i hil hk hci
    have hrt := hi'.root i (by rw [hn]; exact hil)
    have hx : c (c' i) = c' i := hro _ hrt.2.2
    have hv : VarCls R.nodes c i := by
      intro j q hj hq
      have hf := hi.forms i hil hci
      obtain ⟨p, hp⟩ : ∃ p, R.nodes[i]? = some p := ⟨_, List.getElem?_eq_getElem hil⟩
      by_cases hq1 : q.kind = 1
      · exact hq1
      · exact absurd (hk p hp) (hf.head j q p hj (hq.trans hci) hq1 hp)
    have h1 := hs i (c' i) hil (by rw [← hn]; exact hrt.1) hv hrt.2.2.symm
    rw [hx, hci] at h1
    exact h1.symm
  · intro hall i j hil hjl hv he
    have r1 := hi.root i hil
    have r2 := hi.root j hjl
    have hvi : ∀ p, R.nodes[c i]? = some p → p.kind = 1 := fun p hp => hv (c i) p hp r1.2.2
    have h1 : c' (c i) = c i := hall (c i) r1.1 hvi r1.2.2
    have h2 : c' i = c' (c i) := hr i (c i) hil r1.1 r1.2.2.symm
    have h3 : c' j = c' (c j) := hr j (c j) hjl r2.1 r2.2.2.symm
    have h4 : c' (c j) = c i := by rw [← h3, ← he, h2, h1]
    by_cases hvj : ∀ p, R.nodes[c j]? = some p → p.kind = 1
    · have h5 := hall (c j) r2.1 hvj r2.2.2
      rw [h5] at h4; exact h4.symm
    · have hvj' : ∃ p, R.nodes[c j]? = some p ∧ p.kind ≠ 1 := by
        obtain ⟨p, hp⟩ : ∃ p, R.nodes[c j]? = some p := ⟨_, List.getElem?_eq_getElem r2.1⟩
        refine ⟨p, hp, fun e => hvj (fun q hq => ?_)⟩
        rw [hp] at hq; injection hq with hq; rw [← hq]; exact e
      obtain ⟨p, hp, hpk⟩ := hvj'
      obtain ⟨q, hq⟩ : ∃ q, R.nodes[c i]? = some q := ⟨_, List.getElem?_eq_getElem r1.1⟩
      have hf := hi'.forms (c i) (by rw [hn]; exact r1.1) h1
      exact absurd (hvi q hq) (hf.head (c j) p q (by rw [hn]; exact hp) h4 hpk (by rw [hn]; exact hq))
def RAlikePost (w : World) (N : List Nd) (c : Nat → Nat) (a b : Nat) (e : Ending) (w' : World) : Prop :=
  (∃ r : Bool, e = .returned (.bool r) ∧ (r = true ↔ AlikeIn N c a b)) ∧ Below w.heap.size w w'
theorem linkOf_root {up : List Nat} {i : Nat} (h : par up i = i) : linkOf up i = -1 := by unfold linkOf; rw [if_pos h]
theorem linkOf_other {up : List Nat} {i : Nat} (h : par up i ≠ i) : linkOf up i = (par up i : Int) := by unfold linkOf; rw [if_neg h]
theorem RInv.up_iff {R : RS} {c d : Nat → Nat} (h : RInv R c d) (i : Nat) (hi : i < R.nodes.length) : par R.up i = i ↔ c i = i := ⟨fun e => h.forest.root i hi e, fun e => h.rootOf i hi e⟩
set_option maxRecDepth 100000 in
set_option maxHeartbeats 4000000 in
theorem ralike_any {w : World} {v : Value} {ad : List (Option Addr × Nat)} {R : RS} {c d : Nat → Nat} (h : RSt w v ad R) (hi : ROk R c d) (a b : Nat) (ha : a < R.nodes.length) (hb : b < R.nodes.length) :
    Calls Try.prog 20 #[.agg #[v], .int .i64 (a : Int), .int .i64 (b : Int)] w (RAlikePost w R.nodes c a b) := by
  obtain ⟨g0, cap0, hv0, _⟩ := own_pos h.own (by omega)
  subst hv0
  have hm := h.many
  have hb1 : Below w.heap.size w (w.alloc (.cells #[.slice (some ⟨g0, 0, none⟩) R.nodes.length cap0] 29)) := (Below.refl _ _).alloc (Nat.le_refl _) _
  have hbox := heap_alloc_new w (.cells #[.slice (some ⟨g0, 0, none⟩) R.nodes.length cap0] 29)
  obtain ⟨W0, hW0⟩ : ∃ W0, w.alloc (.cells #[.slice (some ⟨g0, 0, none⟩) R.nodes.length cap0] 29) = W0 := ⟨_, rfl⟩
  rw [hW0] at hb1 hbox
  have hw0 : w.heap.size < W0.heap.size := (Array.getElem?_eq_some_iff.1 hbox).1
  have ina : inB R.nodes.length (a : Int) = true := by simp [inB]; omega
  have inb : inB R.nodes.length (b : Int) = true := by simp [inB]; omega
  have HA := hide (ris_any (h.later hb1) (a : Int))
  rw [ina] at HA
  have HIsb := hide (fun W (hW : RSt W (.slice (some ⟨g0, 0, none⟩) R.nodes.length cap0) ad R) => ris_any hW (b : Int))
  rw [inb] at HIsb
  have HW := hide hW0; have Hb1 := hide hb1; have Hbox := hide hbox; have Hh := hide h; have Hi := hide hi
  clear hW0 hb1 hbox h hi ina inb
  go_enter Try.func20, Try.ntmps20
  go_wp2_with fail
  rw [HW.out]
  refine HA.out.mono ?_
  rintro e W1 ⟨rfl, hb2⟩
  have Hbw1 := hide (Hb1.out.trans (hb2.mono (by omega)))
  have q1 := (hb2.block _ hw0).trans Hbox.out
  have hw1 : w.heap.size < W1.heap.size := (Array.getElem?_eq_some_iff.1 q1).1
  obtain ⟨s0, t0⟩ := one_cell q1
  have Hq1 := hide q1
  clear q1 hb2
  go_wp2_with fail
  refine (HIsb.out _ (Hh.out.later Hbw1.out)).mono ?_
  rintro e W2 ⟨rfl, hb2⟩
  have Hbw2 := hide (Hbw1.out.trans (hb2.mono (by omega)))
  have q2 := (hb2.block _ hw1).trans Hq1.out
  have hw2 : w.heap.size < W2.heap.size := (Array.getElem?_eq_some_iff.1 q2).1
  clear s0 t0
  obtain ⟨s0, t0⟩ := one_cell q2
  have Hq2 := hide q2
  clear q2 hb2
  have HM := hide (rmerged_any (Hh.out.later Hbw2.out) Hi.out.inv Hi.out.closed a b ha hb)
  go_wp2_with fail
  refine HM.out.mono ?_
  rintro e W3 ⟨v', R', c', d', ok, rfl, hst3, hn3, hi3, hnew3, hb3, hcase⟩
  obtain ⟨g3, cap3, hv3, -⟩ := own_pos hst3.own (by rw [hn3]; omega)
  subst hv3
  have q3 := (hb3.block _ hw2).trans Hq2.out
  have hw3 : w.heap.size < W3.heap.size := (Array.getElem?_eq_some_iff.1 q3).1
  have Hbw3 := hide (Hbw2.out.trans (hb3.mono (by omega)))
  have Hst3 := hide hst3; have Hn3 := hide hn3; have Hi3 := hide hi3; have Hcase := hide hcase
  have hl3 : R'.nodes.length = R.nodes.length := by rw [hn3]
  rw [hl3]
  have Hl3 := hide hl3
  clear s0 t0 hst3 hn3 hi3 hnew3 hcase hb3 HM hl3
  have Hq3 := hide q3
  clear q3
  cases ok
  · have Hno : Hid (¬ AlikeIn R.nodes c a b) := hide (by
      obtain ⟨h1, -⟩ | ⟨-, h1⟩ := Hcase.out
      · cases h1
      · have h2 := Hn3.out
        rw [h2] at h1
        rintro ⟨e, he, -⟩
        exact h1 e he)
    have Hbf := hide (Hbw3.out.alloc (Nat.le_of_lt hw3) (.cells #[.slice (some ⟨g3, 0, none⟩) R.nodes.length cap3] 29))
    go_wp2
    go_ret
    exact ⟨⟨false, rfl, by simp only [Bool.false_eq_true, false_iff]; exact Hno.out⟩, Hbf.out⟩
  · have Hmi : Hid (MInv R'.nodes c a b c' [] ∧ ∀ i, c' i = i → c i = i) := hide (by
      obtain ⟨-, h1, h2⟩ | ⟨h1, -⟩ := Hcase.out
      · exact ⟨h1, h2⟩
      · cases h1)
    have Hiff : Hid (AlikeIn R.nodes c a b ↔ ∀ i, i < R.nodes.length → (∀ p, R.nodes[i]? = some p → p.kind = 1) → c i = i → c' i = i) := hide (by
      have hl := Hmi.out.1.done
      rw [Hn3.out] at hl
      rw [hl.alike_iff]
      exact still_iff Hi.out.inv Hi3.out Hn3.out hl.good.resp Hmi.out.2)
    go_upto_region 6 with fail
    obtain ⟨W4, hW4⟩ : ∃ W4, W3.alloc (.cells #[.slice (some ⟨g3, 0, none⟩) R.nodes.length cap3] 29) = W4 := ⟨_, rfl⟩
    have hb4 : Below W3.heap.size W3 W4 := by rw [← hW4]; exact (Below.refl _ _).alloc (Nat.le_refl _) _
    have hbox4 : W4.heap[W3.heap.size]? = some (.cells #[.slice (some ⟨g3, 0, none⟩) R.nodes.length cap3] 29 (0, 0)) := by rw [← hW4]; exact heap_alloc_new W3 _
    have q4 := (hb4.block _ hw3).trans Hq3.out
    have Hbw4 := hide (Hbw3.out.trans (hb4.mono (by omega)))
    have Hst4 := hide (Hst3.out.later hb4)
    have Hst0 := hide (Hh.out.later Hbw4.out)
    simp only [hW4]
    clear hW4 hb4
    obtain ⟨s0, t0⟩ := one_cell q4
    obtain ⟨s1, t1⟩ := one_cell hbox4
    clear q4 hbox4
    go_wp2
    go_loop [9] (fun vi => ∃ k : Nat, vi = .int .i64 k ∧ k ≤ R.nodes.length ∧ Hid (∀ i, i < k → (∀ p, R.nodes[i]? = some p → p.kind = 1) → c i = i → c' i = i)) (fun vi => R.nodes.length - (intOf vi).toNat)
    case atStart => exact ⟨0, rfl, by omega, hide (fun i hi => by omega)⟩
    case round =>
      obtain ⟨k, rfl, hk, HAll⟩ := hrel
      by_cases hlt : k < R.nodes.length
      · obtain ⟨p, ax, hp, hax, n0, n1, n2, n3⟩ := Hst0.out.node hlt rfl
        have Hp := hide hp
        have m3 := Hst4.out.linkAt rfl k (by rw [Hl3.out]; exact hlt)
        have hu0 := Hi.out.inv.up_iff k hlt
        have hu1 := Hi3.out.up_iff k (by rw [Hl3.out]; exact hlt)
        clear hp hax n1 n2
        by_cases hkd : p.kind = 1
        · have kk : (p.kind == 1) = true := by simpa using hkd
          by_cases e0 : c k = k
          · rw [linkOf_root (hu0.2 e0)] at n3
            by_cases e1 : c' k = k
            · rw [linkOf_root (hu1.2 e1)] at m3
              have HN : Hid (∀ i, i < k + 1 → (∀ p, R.nodes[i]? = some p → p.kind = 1) → c i = i → c' i = i) := hide (fun i hi h1 h2 => by
                by_cases e : i = k
                · rw [e]; exact e1
                · exact HAll.out i (by omega) h1 h2)
              clear hu0 hu1 hkd e0 e1
              go_wp2
              go_round
              case measure => simp [intOf]; omega
              case rel => exact ⟨k + 1, by go_num, by omega, HN⟩
            · rw [linkOf_other (fun e => e1 (hu1.1 e))] at m3
              have Hno : Hid (¬ AlikeIn R.nodes c a b) := hide (fun h => e1 (Hiff.out.1 h k hlt (fun q hq => by rw [Hp.out] at hq; injection hq with hq; rw [← hq]; exact hkd) e0))
              clear hu0 hu1 hkd e0 e1
              go_wp2
              go_ret
              exact ⟨⟨false, rfl, by simp only [Bool.false_eq_true, false_iff]; exact Hno.out⟩, Hbw4.out⟩
          · rw [linkOf_other (fun e => e0 (hu0.1 e))] at n3
            have HN : Hid (∀ i, i < k + 1 → (∀ p, R.nodes[i]? = some p → p.kind = 1) → c i = i → c' i = i) := hide (fun i hi h1 h2 => by
              by_cases e : i = k
              · rw [e] at h2; exact absurd h2 e0
              · exact HAll.out i (by omega) h1 h2)
            clear hu0 hu1 hkd e0
            go_wp2
            go_round
            case measure => simp [intOf]; omega
            case rel => exact ⟨k + 1, by go_num, by omega, HN⟩
        · have kk : (p.kind == 1) = false := by simpa using hkd
          have HN : Hid (∀ i, i < k + 1 → (∀ p, R.nodes[i]? = some p → p.kind = 1) → c i = i → c' i = i) := hide (fun i hi h1 h2 => by
            by_cases e : i = k
            · subst e; exact absurd (h1 _ Hp.out) hkd
            · exact HAll.out i (by omega) h1 h2)
          clear hu0 hu1 hkd
          go_wp2
          go_round
          case measure => simp [intOf]; omega
          case rel => exact ⟨k + 1, by go_num, by omega, HN⟩
      · obtain rfl : k = R.nodes.length := by omega
        have Hyes : Hid (AlikeIn R.nodes c a b) := hide (Hiff.out.2 HAll.out)
        go_wp2
        go_ret
        exact ⟨⟨true, rfl, by simp only [true_iff]; exact Hyes.out⟩, Hbw4.out⟩
theorem ralike_no {w : World} {v : Value} {ad : List (Option Addr × Nat)} {R : RS} (h : RSt w v ad R) (a : Nat) (b : Int) (ha : a < R.nodes.length) (hb : inB R.nodes.length b = false) :
    Calls Try.prog 20 #[.agg #[v], .int .i64 (a : Int), .int .i64 b] w fun e w' => e = .returned (.bool false) ∧ Below w.heap.size w w' := by
  obtain ⟨g0, cap0, hv0, _⟩ := own_pos h.own (by omega)
  subst hv0
  have hb1 : Below w.heap.size w (w.alloc (.cells #[.slice (some ⟨g0, 0, none⟩) R.nodes.length cap0] 29)) := (Below.refl _ _).alloc (Nat.le_refl _) _
  have hbox := heap_alloc_new w (.cells #[.slice (some ⟨g0, 0, none⟩) R.nodes.length cap0] 29)
  obtain ⟨W0, hW0⟩ : ∃ W0, w.alloc (.cells #[.slice (some ⟨g0, 0, none⟩) R.nodes.length cap0] 29) = W0 := ⟨_, rfl⟩
  rw [hW0] at hb1 hbox
  have hw0 : w.heap.size < W0.heap.size := (Array.getElem?_eq_some_iff.1 hbox).1
  have ina : inB R.nodes.length (a : Int) = true := by simp [inB]; omega
  have HA := hide (ris_any (h.later hb1) (a : Int))
  rw [ina] at HA
  have HIsb := hide (fun W (hW : RSt W (.slice (some ⟨g0, 0, none⟩) R.nodes.length cap0) ad R) => ris_any hW b)
  rw [hb] at HIsb
  have HW := hide hW0; have Hb1 := hide hb1; have Hbox := hide hbox; have Hh := hide h
  clear hW0 hb1 hbox h ina hb
  go_enter Try.func20, Try.ntmps20
  go_wp2_with fail
  rw [HW.out]
  refine HA.out.mono ?_
  rintro e W1 ⟨rfl, hb2⟩
  have Hbw1 := hide (Hb1.out.trans (hb2.mono (by omega)))
  have q1 := (hb2.block _ hw0).trans Hbox.out
  have hw1 : w.heap.size < W1.heap.size := (Array.getElem?_eq_some_iff.1 q1).1
  obtain ⟨s0, t0⟩ := one_cell q1
  clear q1 hb2
  go_wp2_with fail
  refine (HIsb.out _ (Hh.out.later Hbw1.out)).mono ?_
  rintro e W2 ⟨rfl, hb2⟩
  have Hbw2 := hide (Hbw1.out.trans (hb2.mono (by omega)))
  clear s0 t0 hb2
  go_wp2
  go_ret
  exact ⟨rfl, Hbw2.out⟩
end Go.Proofs.Ytafpbdmggnfdnaa
