/- Part 23 of the proof of UnifyCopies: what follows was kept as these texts: RefCopy, RefCopyNo, PlainSame. -/
import Derived.Test.YtafpbdmggnfdnaaUnifyCopiesPt1
import Derived.Test.YtafpbdmggnfdnaaUnifyCopiesPt2
import Derived.Test.YtafpbdmggnfdnaaUnifyCopiesPt3
import Derived.Test.YtafpbdmggnfdnaaUnifyCopiesPt4
import Derived.Test.YtafpbdmggnfdnaaUnifyCopiesPt5
import Derived.Test.YtafpbdmggnfdnaaUnifyCopiesPt6
import Derived.Test.YtafpbdmggnfdnaaUnifyCopiesPt7
import Derived.Test.YtafpbdmggnfdnaaUnifyCopiesPt8
import Derived.Test.YtafpbdmggnfdnaaUnifyCopiesPt9
import Derived.Test.YtafpbdmggnfdnaaUnifyCopiesPt10
import Derived.Test.YtafpbdmggnfdnaaUnifyCopiesPt11
import Derived.Test.YtafpbdmggnfdnaaUnifyCopiesPt12
import Derived.Test.YtafpbdmggnfdnaaUnifyCopiesPt13
import Derived.Test.YtafpbdmggnfdnaaUnifyCopiesPt14
import Derived.Test.YtafpbdmggnfdnaaUnifyCopiesPt15
import Derived.Test.YtafpbdmggnfdnaaUnifyCopiesPt16
import Derived.Test.YtafpbdmggnfdnaaUnifyCopiesPt17
import Derived.Test.YtafpbdmggnfdnaaUnifyCopiesPt18
import Derived.Test.YtafpbdmggnfdnaaUnifyCopiesPt19
import Derived.Test.YtafpbdmggnfdnaaUnifyCopiesPt20
import Derived.Test.YtafpbdmggnfdnaaUnifyCopiesPt21
import Derived.Test.YtafpbdmggnfdnaaUnifyCopiesPt22
/- The reference's store: Copy. -/
namespace Go.Proofs.Ytafpbdmggnfdnaa
open Go.RowKit
set_option linter.unusedVariables false

theorem filter_idx {p : Nat → Bool} {l : List Nat} {i u : Nat} (hn : l.Nodup) (hi : i < l.length) (hu : l[i] = u) (hp : p u = true) : (l.filter p).idxOf u = ((l.take i).filter p).length := by
  have h1 : l = l.take i ++ u :: l.drop (i + 1) := by rw [← hu, List.getElem_cons_drop, List.take_append_drop]
  have h2 : u ∉ (l.take i).filter p := by
    intro h
    obtain ⟨j, hj, hju⟩ := List.mem_iff_getElem.1 (List.mem_filter.1 h).1
    have hj2 : j < i := by simp at hj; omega
    have h3 : l[j]'(by omega) = l[i] := by rw [hu, ← hju]; simp
    have := (List.getElem_inj hn).1 h3
    omega
  have h3 : l.filter p = (l.take i).filter p ++ u :: (l.drop (i + 1)).filter p := by
    conv => lhs; rw [h1]
    rw [List.filter_append, List.filter_cons_of_pos hp]
  rw [h3, List.idxOf_append, if_neg h2, List.idxOf_cons_self]; omega
theorem Stands.var_kind {N : List Nd} {c F : Nat → Nat} {u z : Nat} {T : Fo} (h : Stands N c F [u] T) (hT : T = .var z .nil) : ∃ p, N[F (c u)]? = some p ∧ p.kind = 1 := by
  cases h with
  | @var _ _ _ P' hP' hkd hrr => exact ⟨P', hP', hkd⟩
  | @con _ _ A _ P' hP' hkd haa hrr => cases hT
/-- The marks behind some nodes. -/
structure MkAt (W7 : World) (R : RS) (c : Nat → Nat) (ga : Nat) (ks : List Nat) (j : Nat) (l : List Nat) (wr : World) : Prop where
  only : Only (fun b => b = ga) W7 wr
  len : l.length = R.nodes.length
  arr : Arr wr ga l
  inv : ∀ m, 0 < par l m → AllM R.nodes c l m
  parts : ∃ Uj Vj, Stands R.nodes c idF (ks.take j) Uj ∧ Stands R.nodes c idF (ks.drop j) Vj ∧ (∀ v ∈ Uj.vars, 0 < par l v) ∧ ∀ v p, R.nodes[v]? = some p → p.kind = 1 → 0 < par l v → v ∈ Uj.vars
theorem mkat_next {W7 wr w' : World} {R : RS} {c : Nat → Nat} {ga j x : Nat} {ks l l' : List Nat} {Uj B V' : Fo} (h : MkAt W7 R c ga ks j l wr) (ho : Only (fun b => b = ga) wr w') (hl : l'.length = R.nodes.length) (ha : Arr w' ga l') (hm : MkStep R.nodes c l l' B)
    (hlt : j < ks.length) (hx : ks[j] = x) (hs1 : Stands R.nodes c idF (ks.take j) Uj) (hsB : Stands R.nodes c idF [x] B) (hsR : Stands R.nodes c idF (ks.drop (j + 1)) V') (hall : ∀ v ∈ Uj.vars, 0 < par l v) (hon : ∀ v p, R.nodes[v]? = some p → p.kind = 1 → 0 < par l v → v ∈ Uj.vars) : MkAt W7 R c ga ks (j + 1) l' w' := by
  refine ⟨h.only.trans ho, hl, ha, fun m hm' => ?_, Uj.app B, V', by rw [List.take_succ_eq_append_getElem hlt, hx]; exact hs1.app hsB, hsR, fun v hv => ?_, fun v p hp hk hv => ?_⟩
  · rcases hm.new m hm' with h1 | h1
    · exact (h.inv m h1).mono hm.up
    · exact h1
  · rw [Fo.vars_app] at hv
    rcases List.mem_append.1 hv with hv | hv
    · exact hm.up v (hall v hv)
    · exact hm.all v hv
  · rw [Fo.vars_app]
    rcases hm.only v p hp hk hv with h1 | h1
    · simp [hon v p hp hk h1]
    · simp [h1]
/-- At the head of a round of the last loop. -/
structure RcSt (W5 : World) (bs : Nat) (M : Nat → Prop) (N : List Nd) (c σ : Nat → Nat) (p : Nat → Bool) (met : List Nat) (i : Nat) (vt : Value) (wr : World) (vi : Value) (Mi : Nat → Prop) (Ni : List Nd) (ci : Nat → Nat) (tos : List Nat) : Prop where
  live : RLive Mi vi Ni ci wr
  box : wr.heap[bs]? = some (.cells #[vi] 29 (0, 0))
  nv : NewVars N c ((met.take i).filter p).length Ni ci
  mi : ∀ b, Mi b → M b ∨ (W5.heap.size ≤ b ∧ b < wr.heap.size)
  only : Only (fun b => M b ∨ b = bs) W5 wr
  row : wr.ownsRow W5.heap.size 3 1 vt tos.length (nats tos)
  apart : ∀ b, vt.ownBlock = some b → ¬ Mi b
  tos : tos = (met.take i).map σ
/-- One number more in the row. -/
theorem rcSt_next {W5 wr wx W6 : World} {bs i u y : Nat} {M Mi Mx : Nat → Prop} {N Ni Nx : List Nd} {c ci cx σ : Nat → Nat} {p : Nat → Bool} {met tos : List Nat} {vt vt' vi vx : Value} (h : RcSt W5 bs M N c σ p met i vt wr vi Mi Ni ci tos) (hbs : bs < W5.heap.size) (hnM : ¬ M bs) (hi : i < met.length) (hu : met[i] = u)
    (hlx : RLive Mx vx Nx cx wx) (hbx : wx.heap[bs]? = some (.cells #[vx] 29 (0, 0))) (hnv : NewVars N c ((met.take (i + 1)).filter p).length Nx cx) (hox : Only (fun b => Mi b ∨ b = bs) wr wx) (hmx : ∀ b, Mx b → Mi b ∨ (wr.heap.size ≤ b ∧ b < wx.heap.size)) (hy : y = σ u)
    {o : Obj} (hg : (wx.alloc o).grownBy W6 vt.ownBlock) (hown : W6.ownsRow W5.heap.size 3 1 vt' (tos.length + 1) (nats tos ++ [.int .i64 (y : Int)])) (hat : vt'.ownBlock = vt.ownBlock ∨ vt'.ownBlock = some (wx.alloc o).heap.size) :
    RcSt W5 bs M N c σ p met (i + 1) vt' W6 vx Mx Nx cx (tos ++ [y]) := by
  have z1 := h.only.size; have z2 := hox.size; have z6 := hg.size
  rw [World.size_alloc] at z6 hat
  have hvt := h.row.lt
  have hvM : ∀ b, vt.ownBlock = some b → ¬ Mx b := fun b hb hm => by
    rcases hmx b hm with h2 | h2
    · exact h.apart b hb h2
    · have := (hvt b hb).2; omega
  have hvbs : vt.ownBlock ≠ some bs := fun e => by have := (hvt bs e).1; omega
  have hon : Only (fun b => vt.ownBlock = some b) wx W6 := ((Only.refl _ wx).alloc o).grown hg (fun b hb => .inl hb)
  refine ⟨hlx.keep hon hvM, (far_block hg (by omega) hvbs).trans hbx, hnv, fun b hb => ?_, ?_, ?_, fun b hb => ?_, ?_⟩
  · rcases hmx b hb with h1 | h1
    · rcases h.mi b h1 with h2 | h2
      · exact .inl h2
      · exact .inr (by omega)
    · exact .inr (by omega)
  · have k1 : Only (fun b => M b ∨ b = bs) W5 wx := h.only.then_ hox (fun b hb hl => by
      rcases hb with hb | hb
      · rcases h.mi b hb with h2 | h2
        · exact .inl h2
        · omega
      · exact .inr hb)
    exact k1.then_ hon (fun b hb hl => by have := (hvt b hb).1; omega)
  · rw [List.length_append]
    have e : nats (tos ++ [y]) = nats tos ++ [.int .i64 (y : Int)] := nats_snoc tos y
    rw [e]; exact hown
  · rcases hat with e | e
    · exact hvM b (by rw [← e]; exact hb)
    · rw [e] at hb; injection hb with hb
      intro h1; have := hlx.lt b h1; omega
  · rw [List.take_succ_eq_append_getElem hi, List.map_append, hu, h.tos, hy]; rfl
theorem par_map {f : Nat → Nat} {l : List Nat} {u : Nat} (h : u ∈ l) : par (l.map f) (l.idxOf u) = f u := by
  have hi := List.idxOf_lt_length_of_mem h
  rw [← par_at (by simpa using hi)]
  simp [List.getElem_idxOf]
def RCopyPost (w : World) (M : Nat → Prop) (N : List Nd) (c : Nat → Nat) (T U : Fo) (e : Ending) (w' : World) : Prop :=
  ∃ (v' : Value) (a : Nat) (N' : List Nd) (c' : Nat → Nat), e = .returned (.tuple #[.agg #[v'], .int .i64 (a : Int), .int .i64 0]) ∧ RLive (more M w w') v' N' c' w' ∧ Grown N c N' c' ∧ N.length + (newL T U).length ≤ N'.length ∧ N'.length ≤ N.length + 600 ∧ a < N'.length ∧ TreeOf N' c' [a] (T.mapv (sgOf N.length (newL T U))) ∧ Only M w w'
def RCopyNo (w : World) (v : Value) (err : Int) (e : Ending) (w' : World) : Prop := e = .returned (.tuple #[.agg #[v], .int .i64 0, .int .i64 err]) ∧ Below w.heap.size w w'
set_option maxRecDepth 100000 in
set_option maxHeartbeats 8000000 in
theorem rcopy_any {M : Nat → Prop} {v : Value} {N : List Nd} {c : Nat → Nat} {w : World} (h : RLive M v N c w) (n : Nat) (hn : n < N.length) (A : Option Addr) (cap : Nat) (ks : List Nat) (hA : Nats w A ks) (hAM : ∀ x, A = some x → ¬ M x.block) (hks : ∀ x ∈ ks, x < N.length) (hkl : ks.length ≤ 1000) (hnl : N.length ≤ 1000)
    (T U : Fo) (hT : TreeOf N c [n] T) (hU : TreeOf N c ks U) (hTc : T.cnt ≤ 300) :
    Calls Try.prog 29 #[.agg #[v], .int .i64 (n : Int), .slice A ks.length cap] w (RCopyPost w M N c T U) := by
  have hcls := h.cls
  have hTs := h.tree (is := [n]) (by simpa using hn) hT
  have hUs := h.tree (is := ks) hks hU
  have HL := hide h
  obtain ⟨A0, cap0, hv0⟩ := h.slice
  subst hv0
  obtain ⟨⟨ad, R, d, h2, rfl, h4, h5, h6⟩, h7⟩ := h
  obtain ⟨gr, hgr, hgl⟩ := h4.acyc
  obtain ⟨W0, hW0⟩ : ∃ W0, (w.alloc (.cells #[.slice A0 R.nodes.length cap0] 29)).alloc (.cells #[.slice none 0 0] 29) = W0 := ⟨_, rfl⟩
  have hb1 : Below w.heap.size w W0 := by rw [← hW0]; exact ((Below.refl _ _).alloc (Nat.le_refl _) _).alloc (by simp) _
  have hbs : W0.heap[w.heap.size]? = some (.cells #[.slice A0 R.nodes.length cap0] 29 (0, 0)) := by rw [← hW0, Below.heap_alloc _ _ _ (by simp)]; exact heap_alloc_new w _
  have hbr : W0.heap[w.heap.size + 1]? = some (.cells #[.slice none 0 0] 29 (0, 0)) := by
    rw [← hW0]
    have := heap_alloc_new (w.alloc (.cells #[.slice A0 R.nodes.length cap0] 29)) (.cells #[.slice none 0 0] 29)
    rwa [World.size_alloc] at this
  have hz0 : W0.heap.size = w.heap.size + 2 := by rw [← hW0]; simp
  have hz1 : w.heap.size + 2 ≤ W0.heap.size := by omega
  have hz2 : W0.heap.size ≤ w.heap.size + 2 := by omega
  have hm := h2.many
  have HW0 := hide hW0; have Hb1 := hide hb1; have Hbs := hide hbs; have Hbr := hide hbr; have Hh := hide h2; have Hok := hide h4; have HA := hide hA; have Hks := hide hks; have HTs := hide hTs; have HUs := hide hUs; have Hgr := hide hgr; have Hgl := hide hgl; have Hcls := hide hcls; have HAM := hide hAM; have HT := hide hT; have HU := hide hU
  clear hW0 hz0 hb1 hbs hbr h2 h4 hA hks hTs hUs hgr hgl hcls hAM h5 h6 h7 hT hU
  go_enter Try.func29, Try.ntmps29
  go_upto_region 1 with fail
  simp only [HW0.out]
  go_wp2
  go_loopw [9] (fun vi wr => ∃ k : Nat, vi = .int .i64 k ∧ k ≤ ks.length ∧ Hid (Below W0.heap.size W0 wr)) (fun vi _ => ks.length - (intOf vi).toNat)
  case atStart => exact ⟨0, rfl, by omega, hide (Below.refl _ _)⟩
  case round =>
    obtain ⟨k, rfl, hk, HB⟩ := hrel
    have hzr := HB.out.size
    have Hbw := hide (Hb1.out.trans (HB.out.mono (by omega)))
    have Hst := hide (Hh.out.later Hbw.out)
    have hq := (HB.out.block w.heap.size (by omega)).trans Hbs.out
    obtain ⟨s0, t0⟩ := one_cell hq
    have Hq := hide hq
    have Hr := hide ((HB.out.block (w.heap.size + 1) (by omega)).trans Hbr.out)
    clear hq
    by_cases hlt : k < ks.length
    · obtain ⟨b, off, hAe, hb, d0⟩ := HA.out.at_ k (by simpa [cast] using hlt)
      simp only [cast, List.getElem_map] at d0
      obtain ⟨x, hx⟩ : ∃ x, ks[k] = x := ⟨_, rfl⟩
      have d1 := (Hbw.out.cell (p := ⟨b, off + k, none⟩) hb).trans d0
      rw [hx] at d1
      have hxn : x < R.nodes.length := Hks.out x (by rw [← hx]; exact List.getElem_mem _)
      have HIs := hide (fun W (hW : RSt W (.slice A0 R.nodes.length cap0) ad R) => ris_any hW (x : Int))
      rw [show inB R.nodes.length (x : Int) = true by simp [inB]; omega] at HIs
      have hbl : b < wr.heap.size := by omega
      have hwl : w.heap.size < wr.heap.size := by omega
      have HAe := hide hAe
      rw [hAe]
      clear d0 hx hAe
      go_wp2
      go_region_held3 (fun w' => w'.cell? ⟨w.heap.size, 0, none⟩ = some (.slice A0 R.nodes.length cap0) ∧ w'.cell? ⟨b, off + k, none⟩ = some (.int .i64 (x : Int))) (go_keep)
        (first | (go_at_call 39; refine (HIs.out _ (Hst.out.later (by first | exact Below.refl _ _ | exact (Below.refl _ _).drew))).mono ?_; rintro e w' ⟨rfl, hb'⟩; have r0 := (hb'.cell (p := ⟨w.heap.size, 0, none⟩) hwl).trans s0; have r1 := (hb'.cell (p := ⟨b, off + k, none⟩) hbl).trans d1))
      have Hb' := hide (HB.out.trans ((Below.refl _ _).drew.trans (hb'.mono hzr)))
      clear s0 t0 d1 hb' r0 r1 hbl
      go_wp2
      go_roundw
      case measure => simp [intOf]; omega
      case rel => exact ⟨k + 1, by go_num, by omega, Hb'⟩
    · obtain rfl : k = ks.length := by omega
      have hIn := ris_any Hst.out (n : Int)
      rw [show inB R.nodes.length (n : Int) = true by simp [inB]; omega] at hIn
      have HIn := hide hIn
      clear hIn HB hlt hk
      go_wp2_with fail
      refine HIn.out.mono ?_
      rintro e w2 ⟨rfl, hb2⟩
      have hzr2 := hb2.size
      have Hbw2 := hide (Hbw.out.trans (hb2.mono (by omega)))
      have hq2 := (hb2.block w.heap.size (by omega)).trans Hq.out
      have Hr2 := hide ((hb2.block (w.heap.size + 1) (by omega)).trans Hr.out)
      clear s0 t0 hb2
      obtain ⟨s0, t0⟩ := one_cell hq2
      have Hq2 := hide hq2
      have hSz := rSize_yes (Hh.out.later Hbw2.out) Hok.out.inv n hn T HTs.out
      rw [show capped T.cnt = T.cnt by unfold capped; rw [if_pos hTc]] at hSz
      have HSz := hide hSz
      have kk : decide ((300 : Int) < (T.cnt : Int)) = false := by simp; omega
      clear hSz hq2
      go_wp2_with fail
      refine HSz.out.mono ?_
      rintro e w3 ⟨rfl, hb3⟩
      have hzr3 := hb3.size
      have Hbw3 := hide (Hbw2.out.trans (hb3.mono (by omega)))
      have hq3 := (hb3.block w.heap.size (by omega)).trans Hq2.out
      have Hr3 := hide ((hb3.block (w.heap.size + 1) (by omega)).trans Hr2.out)
      clear s0 t0 hb3
      obtain ⟨s0, t0⟩ := one_cell hq3
      have Hq3 := hide hq3
      have hms := make_ints R.nodes.length hm
      clear hq3
      go_upto_region 11 with fail
      obtain ⟨ga, hga⟩ : ∃ ga, w3.heap.size = ga := ⟨_, rfl⟩
      have hz7 : (w3.alloc (.cells (zeroRow R.nodes.length) 3)).heap.size = ga + 1 := by rw [World.size_alloc, hga]
      have harr : Arr (w3.alloc (.cells (zeroRow R.nodes.length) 3)) ga (List.replicate R.nodes.length 0) := by rw [← hga]; exact Arr.made w3 _ hm
      have hb7 : Below w3.heap.size w3 (w3.alloc (.cells (zeroRow R.nodes.length) 3)) := (Below.refl _ _).alloc (Nat.le_refl _) _
      obtain ⟨W7, hW7⟩ : ∃ W7, w3.alloc (.cells (zeroRow R.nodes.length) 3) = W7 := ⟨_, rfl⟩
      rw [hW7] at hz7 harr hb7
      have HM0 : Hid (MkAt W7 R c ga ks 0 (List.replicate R.nodes.length 0) W7) := hide ⟨Only.refl _ _, by simp, harr, fun m hm0 => by rw [par_rep] at hm0; omega, .nil, U, .nil, by simpa using HUs.out, fun v hv => by simp [Fo.vars] at hv, fun v p _ _ hv => by rw [par_rep] at hv; omega⟩
      simp only [hga, hW7]
      have ge1 : w3.heap.size ≤ ga := by omega
      have ge2 : ga ≤ w3.heap.size := by omega
      have ge3 : ga < W7.heap.size := by omega
      have ge4 : W7.heap.size ≤ ga + 1 := by omega
      have Hb7 := hide (Hbw3.out.trans (hb7.mono (by omega)))
      have Hq7 := hide ((hb7.block w.heap.size (by omega)).trans Hq3.out)
      have Hr7 := hide ((hb7.block (w.heap.size + 1) (by omega)).trans Hr3.out)
      clear hga hW7 harr hb7 hz7 s0 t0 hms
      go_wp2
      go_loopw [11] (fun vj wx => ∃ (j : Nat) (l : List Nat), vj = .int .i64 j ∧ j ≤ ks.length ∧ Hid (MkAt W7 R c ga ks j l wx)) (fun vj _ => ks.length - (intOf vj).toNat)
      case atStart => exact ⟨0, _, rfl, by omega, HM0⟩
      case round =>
        obtain ⟨j, l, rfl, hj, HMr⟩ := hrel
        clear HM0
        have hzx := HMr.out.only.size
        have hbx : Below w.heap.size w wr := Only.below_trans Hb7.out HMr.out.only (fun b _ e => by omega) (by omega)
        have hqx := (HMr.out.only.block w.heap.size (by omega) (by omega)).trans Hq7.out
        obtain ⟨s0, t0⟩ := one_cell hqx
        have Hbx := hide hbx; have Hqx := hide hqx
        have Hrx := hide ((HMr.out.only.block (w.heap.size + 1) (by omega) (by omega)).trans Hr7.out)
        clear hbx hqx
        by_cases hlt : j < ks.length
        · obtain ⟨b, off, hAe, hb, d0⟩ := HA.out.at_ j (by simpa [cast] using hlt)
          simp only [cast, List.getElem_map] at d0
          obtain ⟨x, hx⟩ : ∃ x, ks[j] = x := ⟨_, rfl⟩
          have d1 := (Hbx.out.cell (p := ⟨b, off + j, none⟩) hb).trans d0
          rw [hx] at d1
          have hxn : x < R.nodes.length := Hks.out x (by rw [← hx]; exact List.getElem_mem _)
          obtain ⟨Uj, Vj, hs1, hs2, hall, hon⟩ := HMr.out.parts
          rw [List.drop_eq_getElem_cons hlt, hx, show x :: ks.drop (j + 1) = [x] ++ ks.drop (j + 1) from rfl] at hs2
          obtain ⟨B, V', hRR, hsB, hsR⟩ := hs2.split
          have hll : l.length = R.nodes.length := HMr.out.len
          have hwi := fun (W : World) (hW : Below wr.heap.size wr W) => rwithin_any Hok.out.inv gr Hgr.out Hgl.out ga (v := .slice A0 R.nodes.length cap0) (fun e => by have := Hh.out.lt _ e; omega) (fun i a ha z hz e => by have := Hh.out.adlt i a ha z hz; omega) B.cnt x B l W (Nat.le_refl _) hxn hll hsB ((Hh.out.later Hbx.out).later hW) (HMr.out.arr.keep (hW.block ga HMr.out.arr.lt)) (fun m hm0 _ => HMr.out.inv m hm0)
          rw [hll] at hwi
          have HWi := hide hwi
          have Hnext := hide (fun (w' : World) (l' : List Nat) (ho : Only (fun b => b = ga) wr w') (hl' : l'.length = R.nodes.length) (ha' : Arr w' ga l') (hm' : MkStep R.nodes c l l' B) => mkat_next HMr.out ho hl' ha' hm' hlt hx hs1 hsB hsR hall hon)
          have lw : w.heap.size < wr.heap.size := by omega
          have lb : b < wr.heap.size := by omega
          have ng : w.heap.size ≠ ga := by omega
          have nb : b ≠ ga := by omega
          have HAe := hide hAe
          rw [hAe]
          clear d0 hx hAe hs1 hs2 hRR hsB hsR hall hon hll hwi
          go_wp2
          go_region_held3 (fun w' => w'.cell? ⟨w.heap.size, 0, none⟩ = some (.slice A0 R.nodes.length cap0) ∧ w'.cell? ⟨b, off + j, none⟩ = some (.int .i64 (x : Int))) (go_keep)
            (first | (go_at_call 53; refine (HWi.out _ (by first | exact Below.refl _ _ | exact (Below.refl _ _).drew)).mono ?_; rintro e w' ⟨⟨ve, rfl⟩, ho', hl'⟩; have r0 := (ho'.cell (p := ⟨w.heap.size, 0, none⟩) lw ng).trans s0; have r1 := (ho'.cell (p := ⟨b, off + j, none⟩) lb nb).trans d1; have Hl' := hide hl'; clear hl'))
          have Ho' : Hid (Only (fun b => b = ga) wr w') := hide ((Only.refl _ _).drew.trans ho')
          rename_i hHeld
          clear hHeld ho' s0 t0 d1 r0 r1
          have HNx : Hid (∃ l', MkAt W7 R c ga ks (j + 1) l' w') := hide (by
            obtain ⟨l', h1, h2, h3⟩ := Hl'.out
            exact ⟨l', Hnext.out w' l' Ho'.out h1 h2 h3⟩)
          go_wp2
          go_roundw
          case measure => simp [intOf]; omega
          case rel =>
            obtain ⟨l', h1⟩ := HNx.out
            exact ⟨j + 1, l', by go_num, by omega, hide h1⟩
        · obtain rfl : j = ks.length := by omega
          have Hmk : Hid (∀ u ∈ T.vars, 0 < par l u ↔ u ∈ U.vars) := hide (fun u hu => by
            obtain ⟨Uj, Vj, hs1, hs2, hall, hon⟩ := HMr.out.parts
            rw [List.take_of_length_le (Nat.le_refl _)] at hs1
            have e := hs1.unique HUs.out
            subst e
            refine ⟨fun h => ?_, fun h => hall u h⟩
            have hv := (tree_var Hcls.out (by simpa using hn) HT.out hu).2.2
            have hs := HL.out.tree (is := [u]) (by simpa using (tree_var Hcls.out (by simpa using hn) HT.out hu).1) hv
            have hcu := (tree_var Hcls.out (by simpa using hn) HT.out hu).2.1
            obtain ⟨P', hP', hkd⟩ := hs.var_kind rfl
            unfold idF at hP'
            rw [hcu] at hP'
            exact hon u P' hP' hkd h)
          have HTy := hide (rtyp_any Hok.out.inv T.cnt n T wr (Nat.le_refl _) hn HTs.out (Hh.out.later Hbx.out))
          have HPr := hide HTs.out.proper
          obtain ⟨w4, rfl⟩ : ∃ w4 : World, w4 = wr := ⟨_, rfl⟩
          clear hlt hj
          go_wp2_with fail
          refine HTy.out.mono ?_
          rintro e w5 ⟨kd, nu, sn, A5, n5, c5, rfl, hfo5, hb5⟩
          have hzr5 := hb5.size
          have Hb5 := hide (Hbx.out.trans (hb5.mono (by omega)))
          have Hq5 := hide ((hb5.block w.heap.size (by omega)).trans Hqx.out)
          have Hr5 := hide ((hb5.block (w.heap.size + 1) (by omega)).trans Hrx.out)
          have Harr5 := hide (HMr.out.arr.keep (hb5.block ga HMr.out.arr.lt))
          have Hfo5 := hide hfo5
          have Hlen5 := hide HMr.out.len
          clear hfo5 hb5 s0 t0 HTy HMr
          go_upto_region 16 with fail
          obtain ⟨W6, hW6⟩ : ∃ W6, w5.alloc (.cells #[.int .i64 kd, .int .i64 nu, .string sn, .slice A5 n5 c5] 48) = W6 := ⟨_, rfl⟩
          have hb6 : Below w5.heap.size w5 W6 := by rw [← hW6]; exact (Below.refl _ _).alloc (Nat.le_refl _) _
          have hbt6 : W6.heap[w5.heap.size]? = some (.cells #[.int .i64 kd, .int .i64 nu, .string sn, .slice A5 n5 c5] 48 (0, 0)) := by rw [← hW6]; exact heap_alloc_new w5 _
          have hz6 : W6.heap.size = w5.heap.size + 1 := by rw [← hW6]; simp
          have hb67 : Below W6.heap.size W6 (W6.alloc (.cells #[] 3)) := (Below.refl _ _).alloc (Nat.le_refl _) _
          have hrow7 : (W6.alloc (.cells #[] 3)).ownsRow w5.heap.size 3 1 (.slice (some ⟨W6.heap.size, 0, none⟩) 0 0) 0 (nats []) := World.ownsRow_made (base := w5.heap.size) (e := 3) (size := 1) W6 #[] 0 (by omega) (Nat.zero_le _) rfl
          have hz7 : (W6.alloc (.cells #[] 3)).heap.size = w5.heap.size + 2 := by simp; omega
          have hb57 : Below w5.heap.size w5 (W6.alloc (.cells #[] 3)) := hb6.trans (hb67.mono (by omega))
          have hbt7 := (hb67.block w5.heap.size (by omega)).trans hbt6
          obtain ⟨x0, x1, x2, x3, -⟩ := four_cells hbt7
          have hvl := Fo.vars_len T
          have HV := hide (rvars_any (fun b => w4.heap.size ≤ b ∧ b < w5.heap.size) w5.heap.size T.cnt T [] (.slice (some ⟨W6.heap.size, 0, none⟩) 0 0) (W6.alloc (.cells #[] 3)) kd nu sn A5 n5 c5 HPr.out (Nat.le_refl _) (by omega) (by simp only [List.length_nil]; omega) (by omega) (fun b hb => ⟨by omega, fun e => by have h9 : W6.heap.size = b := (by simpa [Value.ownBlock] using e); omega⟩) hrow7 (FoCells.keep _ Hfo5.out (fun _ h => h) (fun p hp => hb57.cell hp.2)))
          obtain ⟨bt, hbt⟩ : ∃ bt, w5.heap.size = bt := ⟨_, rfl⟩
          simp only [hW6, hbt]
          have Hb57 := hide hb57; have Hbt7 := hide hbt7
          rw [hbt] at hz6 hz7 x0 x1 x2 x3 HV hzr5 Hbt7
          have Hz6 := hide hz6; have Hz7 := hide hz7; have Hbt := hide hbt
          have hz6a : bt + 1 ≤ W6.heap.size := by omega
          clear hW6 hb6 hbt6 hz6 hb67 hrow7 hz7 hb57 hbt7 hbt
          go_wp2_with fail
          refine HV.out.mono ?_
          rintro e w7 ⟨vm, rfl, hown7, hon7, hat7⟩
          have hz77 := hon7.size
          obtain ⟨met, hmet⟩ : ∃ met, addNew [] T.vars = met := ⟨_, rfl⟩
          rw [hmet] at hown7
          obtain ⟨Am, mcap, hvm, hNm, hlm⟩ := nats_of_own hown7
          subst hvm
          have hml : met.length ≤ 300 := by
            have h1 := addNew_len [] T.vars
            rw [hmet] at h1; simp at h1; omega
          have hWz : (W6.alloc (.cells #[] 3)).heap.size = bt + 2 := Hz7.out
          have hon57 : Only (fun b => bt ≤ b) w5 w7 := (Only.of_below Hb57.out _).then_ hon7 (fun b hb hl => by
            have : W6.heap.size = b := by simpa [Value.ownBlock] using hb
            have := Hz6.out; omega)
          have hmv : ∀ u ∈ met, u ∈ T.vars := fun u hu => by
            rw [← hmet] at hu
            simpa using (addNew_mem _ _ _).1 hu
          have hmn : met.Nodup := by rw [← hmet]; exact addNew_nodup _ _ List.nodup_nil
          have Hmet := hide hmet; have Hmv := hide hmv; have Hmn := hide hmn; have HNm := hide hNm; have Hlm := hide hlm
          have hqk : ∀ b, b < bt → w7.heap[b]? = w5.heap[b]? := fun b hb => hon57.block b (by have := Hbt.out; omega) (by omega)
          have Hqk := hide hqk
          have hbw7 : Below w.heap.size w w7 := Only.below_trans Hb5.out hon57 (fun i _ hb => by omega) (by have := Hbt.out; omega)
          have Hbw7 := hide hbw7
          have hbt7' : w7.heap[bt]? = some (.cells #[.int .i64 kd, .int .i64 nu, .string sn, .slice A5 n5 c5] 48 (0, 0)) := (hon7.block bt (by omega) (fun e => by have h9 : W6.heap.size = bt := (by simpa [Value.ownBlock] using e); omega)).trans Hbt7.out
          have Hbt7' := hide hbt7'
          have hz7a : bt + 2 ≤ w7.heap.size := by omega
          obtain ⟨σ, hσ⟩ : ∃ σ, sgOf R.nodes.length (newL T U) = σ := ⟨_, rfl⟩
          have Hσ := hide hσ
          clear hmet hmv hmn hNm hlm hqk hbw7 hbt7' hown7 hon7 hat7 hon57 hWz HV x0 x1 x2 x3 hσ
          go_upto_region 18 with fail
          obtain ⟨W9, hW9⟩ : ∃ W9, w7.alloc (.cells #[] 3) = W9 := ⟨_, rfl⟩
          have hb79 : Below w7.heap.size w7 W9 := by rw [← hW9]; exact (Below.refl _ _).alloc (Nat.le_refl _) _
          have hrow9 : W9.ownsRow w7.heap.size 3 1 (.slice (some ⟨w7.heap.size, 0, none⟩) 0 0) 0 (nats []) := by
            rw [← hW9]
            exact World.ownsRow_made (base := w7.heap.size) (e := 3) (size := 1) w7 #[] 0 (Nat.le_refl _) (Nat.zero_le _) rfl
          have HRc0 : Hid (∃ (vi : Value) (Mi : Nat → Prop) (Ni : List Nd) (ci : Nat → Nat) (tos : List Nat), RcSt w7 w.heap.size M R.nodes c σ (fun v => decide (v ∉ U.vars)) met 0 (.slice (some ⟨w7.heap.size, 0, none⟩) 0 0) W9 vi Mi Ni ci tos) :=
            hide ⟨_, M, R.nodes, c, [], HL.out.below (Hbw7.out.trans (hb79.mono Hbw7.out.size)), (hb79.block w.heap.size (by omega)).trans ((Hqk.out w.heap.size (by have := Hbt.out; omega)).trans Hq5.out), by simpa using NewVars.zero _ _, fun b hb => .inl hb, Only.of_below hb79 _, hrow9, fun b hb hm => by
              have h9 : w7.heap.size = b := by simpa [Value.ownBlock] using hb
              have := HL.out.lt b hm; have := Hbw7.out.size; omega, by simp⟩
          simp only [hW9]
          obtain ⟨i1, ki, kz0, kz1, kz2⟩ := info_parts intInfo
          have Ki := hide ki; have Kz0 := hide kz0; have Kz1 := hide kz1; have Kz2 := hide kz2
          clear hW9 hb79 hrow9 ki kz0 kz1 kz2
          go_wp2
          go_loopw [14, 15] (fun vt vi wx => ∃ i : Nat, vi = .int .i64 i ∧ i ≤ met.length ∧ Hid (∃ (v1 : Value) (Mi : Nat → Prop) (Ni : List Nd) (ci : Nat → Nat) (tos : List Nat), RcSt w7 w.heap.size M R.nodes c σ (fun v => decide (v ∉ U.vars)) met i vt wx v1 Mi Ni ci tos)) (fun _ vi _ => met.length - (intOf vi).toNat)
          case atStart => exact ⟨0, rfl, by omega, HRc0⟩
          case round =>
            obtain ⟨i, rfl, hi, HRr⟩ := hrel
            clear HRc0
            obtain ⟨vi, Mi, Ni, ci, tos, hst⟩ := HRr.out
            obtain ⟨Ai, ci1, hvi⟩ := hst.live.slice
            subst hvi
            have HSt := hide hst
            have htl : tos.length = i := by rw [hst.tos]; simp; omega
            have htl1 : tos.length ≤ i := by omega
            have htl2 : i ≤ tos.length := by omega
            have hzr9 := hst.only.size
            obtain ⟨s0, t0⟩ := one_cell hst.box
            have hkeep : ∀ b, w.heap.size < b → b < w7.heap.size → wr.heap[b]? = w7.heap[b]? := fun b h1 h2 => hst.only.block b h2 (by
              rintro (h | h)
              · have := HL.out.lt b h; omega
              · omega)
            have Hkeep := hide hkeep
            have hsz9 := Hbw7.out.size
            have hbtw := Hbt.out
            have hbtw1 : w5.heap.size ≤ bt := by omega
            have hbtw2 : bt ≤ w5.heap.size := by omega
            clear hst hkeep HRr htl hbtw
            by_cases hlt : i < met.length
            · obtain ⟨bm, om, hAm, hbm, d0⟩ := HNm.out.at_ i (by simpa [cast] using hlt)
              simp only [cast, List.getElem_map] at d0
              obtain ⟨u, hu⟩ : ∃ u, met[i] = u := ⟨_, rfl⟩
              rw [hu] at d0
              have hbm2 := (Hlm.out _ hAm).1
              have d1 := (World.cell?_of_block (a := ⟨bm, om + i, none⟩) (Hkeep.out bm (by simp only at hbm2; omega) hbm)).trans d0
              have hum : u ∈ met := by rw [← hu]; exact List.getElem_mem _
              have huT := Hmv.out u hum
              have hun : u < R.nodes.length := (tree_var Hcls.out (by simpa using hn) HT.out huT).1
              have e1 := (Harr5.out.keep ((Hkeep.out ga (by omega) (by omega)).trans (Hqk.out ga (by omega)))).cell u (by rw [Hlen5.out]; exact hun)
              have Hiff := hide (Hmk.out u huT)
              have Hu := hide hu
              have HAm := hide hAm
              have Hmem : Hid (u ∈ newL T U ↔ u ∉ U.vars) := hide (by rw [newL_mem]; simp [huT])
              obtain ⟨q, hq⟩ : ∃ q, par l u = q := ⟨_, rfl⟩
              rw [hq] at e1 Hiff
              have Hsn := hide (filter_take_succ (p := fun v => decide (v ∉ U.vars)) hlt)
              rw [hu] at Hsn
              rw [hAm]
              clear d0 hu hAm hq
              by_cases hq0 : 0 < q
              · have k1 : decide ((0 : Int) < (q : Int)) = true := by simp; omega
                have k2 : decide (0 < q) = true := by simp; omega
                have huU := Hiff.out.1 hq0
                have hσu : σ u = u := by rw [← Hσ.out]; unfold sgOf; rw [if_neg (fun h => Hmem.out.1 h huU)]
                have HO := hide (HSt.out.row.alloc (.cells #[.int .i64 (u : Int)] 3))
                have HN4 := hide (one_new wr (.int .i64 (u : Int)) 3)
                have HE4 : Hid (∀ x ∈ [Value.int .i64 (u : Int)], x.oneCell' = true) := hide (by simp [Value.oneCell'])
                have hnv : NewVars R.nodes c ((met.take (i + 1)).filter (fun v => decide (v ∉ U.vars))).length Ni ci := by
                  rw [Hsn.out, if_neg (by simpa using huU), List.append_nil]; exact HSt.out.nv
                have Hnv := hide hnv; have Hσu := hide hσu
                clear huU hnv hσu
                go_wp2_with (at_builtin; refine wpList_append_own_at _ rfl (.tmp 81) (.tmp 86) 30 rfl w7.heap.size 3 i1 (.int .i64 0) 1 8 Try.underlying30 Ki.out Kz0.out Kz1.out Kz2.out rfl (by decide) u14 tos.length (nats tos) rfl HO.out ⟨wr.heap.size, 0, none⟩ 1 1 [.int .i64 (u : Int)] rfl rfl HN4.out HE4.out (by unfold maxLen; omega) (by omega) (by simp; omega) ?_; intro v8 W8 own8 grow8 nil8 at8; clear nil8; have Hown8 := hide own8; have Hgrow8 := hide grow8; have Hat8 := hide at8; clear own8 grow8 at8)
                have HNx : Hid (∃ (v1 : Value) (Mi : Nat → Prop) (Ni : List Nd) (ci : Nat → Nat) (tos : List Nat), RcSt w7 w.heap.size M R.nodes c σ (fun v => decide (v ∉ U.vars)) met (i + 1) v8 W8 v1 Mi Ni ci tos) :=
                  hide ⟨_, Mi, Ni, ci, tos ++ [u], rcSt_next HSt.out (by omega) (fun h => by have := HL.out.lt _ h; omega) hlt Hu.out HSt.out.live HSt.out.box Hnv.out (Only.refl _ _) (fun b hb => .inl hb) Hσu.out.symm Hgrow8.out Hown8.out Hat8.out⟩
                go_roundw
                case measure => simp [intOf]; omega
                case rel => exact ⟨i + 1, by go_num, by omega, HNx⟩
              · have k1 : decide ((0 : Int) < (q : Int)) = false := by simp; omega
                have k2 : decide (0 < q) = false := by simp; omega
                have huU : u ∉ U.vars := fun h => hq0 (Hiff.out.2 h)
                have hnl1 : ((met.take i).filter (fun v => decide (v ∉ U.vars))).length ≤ i := by
                  have h1 := List.length_filter_le (fun v => decide (v ∉ U.vars)) (met.take i)
                  have h2 : (met.take i).length ≤ i := List.length_take_le _ _
                  omega
                have hNl := HSt.out.nv.len
                have hmany : Ni.length + 1 ≤ 1000000 := by omega
                have hσu : σ u = Ni.length := by
                  rw [← Hσ.out, hNl]
                  unfold sgOf
                  rw [if_pos (Hmem.out.2 huU)]
                  have h1 : newL T U = met.filter (fun v => decide (v ∉ U.vars)) := by unfold newL; rw [Hmet.out]
                  rw [h1, filter_idx Hmn.out hlt Hu.out (by simpa using huU)]
                have Hnv0 : Hid ((met.take (i + 1)).filter (fun v => decide (v ∉ U.vars)) = (met.take i).filter (fun v => decide (v ∉ U.vars)) ++ [u]) := hide (by rw [Hsn.out, if_pos (by simpa using huU)])
                have Hσu := hide hσu
                have hnMi : ¬ Mi w.heap.size := fun h => by
                  rcases HSt.out.mi _ h with h1 | h1
                  · have := HL.out.lt _ h1; omega
                  · omega
                clear huU hσu hNl hnl1
                go_wp2_with fail
                refine (rlive_var HSt.out.live hmany).mono ?_
                rintro e w8 ⟨v8, rfl, hl8, ho8⟩
                obtain ⟨A8, c8, hv8⟩ := hl8.slice
                have hlen1 : (Ni ++ [varNd]).length = Ni.length + 1 := by simp
                rw [hlen1] at hv8
                subst hv8
                clear hlen1
                have hz8 := ho8.size
                have hbs8 := (ho8.block w.heap.size (by omega) hnMi).trans HSt.out.box
                obtain ⟨f0, f1⟩ := one_cell hbs8
                have hrow8 := own_keep HSt.out.row (fun b hb => ho8.block b (HSt.out.row.lt b hb).2 (HSt.out.apart b hb))
                have hz9 : (w8.setCell ⟨w.heap.size, 0, none⟩ (.slice A8 (Ni.length + 1) c8)).heap.size = w8.heap.size := by simp [World.setCell]
                have hon9 : Only (fun b => b = w.heap.size) w8 (w8.setCell ⟨w.heap.size, 0, none⟩ (.slice A8 (Ni.length + 1) c8)) := (Only.refl (fun b => b = w.heap.size) w8).setCell (p := ⟨w.heap.size, 0, none⟩) (.inl rfl) _
                have hnM8 : ¬ more Mi wr w8 w.heap.size := by
                  rintro (h | h)
                  · exact hnMi h
                  · omega
                have hrow9 := (own_keep hrow8 (fun b hb => hon9.block b (hrow8.lt b hb).2 (by have := (hrow8.lt b hb).1; omega))).alloc (.cells #[.slice A8 (Ni.length + 1) c8] 29)
                have HO := hide (hrow9.alloc (.cells #[.int .i64 (Ni.length : Int)] 3))
                have hN4 := one_new ((w8.setCell ⟨w.heap.size, 0, none⟩ (.slice A8 (Ni.length + 1) c8)).alloc (.cells #[.slice A8 (Ni.length + 1) c8] 29)) (.int .i64 (Ni.length : Int)) 3
                rw [World.size_alloc, hz9] at hN4
                have HN4 := hide hN4
                have HE4 : Hid (∀ x ∈ [Value.int .i64 (Ni.length : Int)], x.oneCell' = true) := hide (by simp [Value.oneCell'])
                have Hl8 := hide hl8; have Ho8 := hide ho8; have Hbs8 := hide hbs8; have Hon9 := hide hon9; have Hz9 := hide hz9; have HnM8 := hide hnM8
                have hl0 : w.heap.size < w8.heap.size := by omega
                clear hl8 ho8 hbs8 hon9 hz9 hnM8 hrow8 hrow9 hN4 d1 e1 s0 t0
                go_wp2_with (at_builtin; refine wpList_append_own_at _ rfl (.tmp 94) (.tmp 96) 30 rfl w7.heap.size 3 i1 (.int .i64 0) 1 8 Try.underlying30 Ki.out Kz0.out Kz1.out Kz2.out rfl (by decide) u14 tos.length (nats tos) rfl HO.out ⟨w8.heap.size + 1, 0, none⟩ 1 1 [.int .i64 (Ni.length : Int)] rfl rfl HN4.out HE4.out (by unfold maxLen; omega) (by omega) (by have := Hz9.out; simp; omega) ?_; intro v9 W9' own9 grow9 nil9 at9; clear nil9; have Hown9 := hide own9; have Hgrow9 := hide grow9; have Hat9 := hide at9; clear own9 grow9 at9)
                have HNx : Hid (∃ (v1 : Value) (Mi : Nat → Prop) (Ni : List Nd) (ci : Nat → Nat) (tos : List Nat), RcSt w7 w.heap.size M R.nodes c σ (fun v => decide (v ∉ U.vars)) met (i + 1) v9 W9' v1 Mi Ni ci tos) := by
                  have hz9 := Hz9.out
                  have hlx := (Hl8.out.keep Hon9.out (fun b hb => by rw [hb]; exact HnM8.out)).below ((Below.refl _ _).alloc (Nat.le_refl _) (.cells #[.slice A8 (Ni.length + 1) c8] 29))
                  have hnv : NewVars R.nodes c ((met.take (i + 1)).filter (fun v => decide (v ∉ U.vars))).length (Ni ++ [varNd]) (addC Ni.length ci) := by
                    rw [Hnv0.out, List.length_append]
                    exact HSt.out.nv.step HSt.out.live.cls hlx.cls
                  refine hide ⟨_, more Mi wr w8, Ni ++ [varNd], addC Ni.length ci, tos ++ [Ni.length], rcSt_next HSt.out (by omega) (fun h => by have := HL.out.lt _ h; omega) hlt Hu.out hlx ?_ hnv ?_ (fun b hb => ?_) Hσu.out.symm Hgrow9.out Hown9.out Hat9.out⟩
                  · rw [Below.heap_alloc _ _ _ (by rw [hz9]; omega)]
                    exact blk_set Hbs8.out 0 _
                  · exact ((Ho8.out.mono (fun b _ hb => .inl hb)).then_ Hon9.out (fun b hb _ => .inr hb)).alloc _
                  · rcases hb with hb | hb
                    · exact .inl hb
                    · exact .inr (by simp only [World.size_alloc, hz9]; omega)
                go_roundw
                case measure => simp [intOf]; omega
                case rel => exact ⟨i + 1, by go_num, by omega, HNx⟩
            · obtain rfl : i = met.length := by omega
              obtain ⟨At, tc, hvt, hNt, hlt2⟩ := nats_of_own HSt.out.row
              subst hvt
              have htos : tos = met.map σ := by rw [HSt.out.tos, List.take_of_length_le (Nat.le_refl _)]
              have hnl9 : (met.take met.length).filter (fun v => decide (v ∉ U.vars)) = newL T U := by
                rw [List.take_of_length_le (Nat.le_refl _), ← Hmet.out]; rfl
              have hnv := HSt.out.nv
              rw [hnl9] at hnv
              have hnN := hnv.len
              have hnlc := newL_len T U
              have hMi : ∀ b, w.heap.size ≤ b → b < w7.heap.size → ¬ Mi b := fun b h1 h2 h => by
                rcases HSt.out.mi b h with h3 | h3
                · have := HL.out.lt b h3; omega
                · omega
              have hblk : ∀ b, w.heap.size < b → b < w5.heap.size → wr.heap[b]? = w5.heap[b]? := fun b h1 h2 => (Hkeep.out b h1 (by omega)).trans (Hqk.out b (by omega))
              have hw4 : w.heap.size < w4.heap.size := by omega
              have HPre : Hid (BuPre σ (fun b => w4.heap.size ≤ b ∧ b < w5.heap.size) Am met At tos T (.slice Ai Ni.length ci1) Ni ci Mi wr) := by
                refine hide ⟨HSt.out.live, HPr.out, by omega, fun b hb => ⟨by omega, hMi b (by omega) (by omega)⟩, ?_, by omega, hNt, by rw [htos]; simp, fun x hx => ?_, fun x hx => ⟨(hlt2 x hx).2, HSt.out.apart _ (by rw [hx]; rfl)⟩, fun u hu => ?_, fun u hu => ?_, by omega⟩
                · exact Ints.keep HNm.out (by omega) (fun a1 p1 ha1 hp1 hl1 => World.cell?_of_block (Hkeep.out p1.block (by have := (Hlm.out a1 ha1).1; rw [hp1]; omega) hl1))
                · have h1 := Hlm.out x hx
                  exact ⟨by omega, hMi _ (by omega) h1.2⟩
                · rw [← Hmet.out]; exact (addNew_mem _ _ _).2 (.inr hu)
                · rw [htos, par_map hu]
                  have hv := tree_var Hcls.out (by simpa using hn) HT.out (Hmv.out u hu)
                  by_cases e : u ∈ newL T U
                  · have h1 : σ u = R.nodes.length + (newL T U).idxOf u := by rw [← Hσ.out]; unfold sgOf; rw [if_pos e]
                    have h2 := List.idxOf_lt_length_of_mem e
                    rw [h1]
                    exact ⟨by omega, hnv.trees _ h2⟩
                  · have h1 : σ u = u := by rw [← Hσ.out]; unfold sgOf; rw [if_neg e]
                    rw [h1]
                    exact ⟨Nat.lt_of_lt_of_le hv.1 hnv.grown.len, hv.2.2.grown Hcls.out hnv.grown (by simpa using hv.1)⟩
              have hfo9 : FoCells wr (fun b => w4.heap.size ≤ b ∧ b < w5.heap.size) T (tyCells kd nu sn A5 n5 c5) := FoCells.keep _ Hfo5.out (fun _ h => h) (fun p hp => World.cell?_of_block (hblk p.block (by have := hp.1; omega) hp.2))
              have HBu := hide (rbuilt_any σ (fun b => w4.heap.size ≤ b ∧ b < w5.heap.size) Am mcap met At tc tos T.cnt T (.slice Ai Ni.length ci1) Ni ci Mi wr kd nu sn A5 n5 c5 (Nat.le_refl _) HPre.out hfo9)
              obtain ⟨x0, x1, x2, x3, -⟩ := four_cells ((Hkeep.out bt (by omega) (by omega)).trans Hbt7'.out)
              have hr9 := (Hkeep.out (w.heap.size + 1) (by omega) (by omega)).trans ((Hqk.out (w.heap.size + 1) (by omega)).trans Hr5.out)
              have Hr9 := hide hr9
              have Hnv := hide hnv; have HMi := hide hMi
              have hnNa : Ni.length ≤ R.nodes.length + (newL T U).length := by omega
              have hnNb : R.nodes.length + (newL T U).length ≤ Ni.length := by omega
              clear htos hnl9 hnv hnN hMi hblk hfo9 hNt hlt2 hr9 hlt hi
              go_wp2_with fail
              refine HBu.out.mono ?_
              rintro e w9 ⟨v9, a9, N9, c9, rfl, hl9, hg9, hn9, ha9, ht9, ho9⟩
              obtain ⟨A9, cc9, hv9⟩ := hl9.slice
              subst hv9
              have hz9 := ho9.size
              have hbs9 := (ho9.block w.heap.size (by omega) (HMi.out _ (by omega) (by omega))).trans HSt.out.box
              have hbr9 := (ho9.block (w.heap.size + 1) (by omega) (HMi.out _ (by omega) (by omega))).trans Hr9.out
              obtain ⟨f0, f1⟩ := one_cell hbs9
              obtain ⟨f2, f3⟩ := one_cell hbr9
              have hlw9 : w.heap.size + 1 < w9.heap.size := by omega
              have hon : Only (fun b => b = w.heap.size ∨ b = w.heap.size + 1) w9 ((w9.setCell ⟨w.heap.size, 0, none⟩ (.slice A9 N9.length cc9)).setCell ⟨w.heap.size + 1, 0, none⟩ (.slice A9 N9.length cc9)) :=
                ((Only.refl (fun b => b = w.heap.size ∨ b = w.heap.size + 1) w9).setCell (p := ⟨w.heap.size, 0, none⟩) (.inl (.inl rfl)) _).setCell (p := ⟨w.heap.size + 1, 0, none⟩) (.inl (.inr rfl)) _
              have hzo := hon.size
              have k0 : ((w9.setCell ⟨w.heap.size, 0, none⟩ (.slice A9 N9.length cc9)).setCell ⟨w.heap.size + 1, 0, none⟩ (.slice A9 N9.length cc9)).cell? ⟨w.heap.size + 1, 0, none⟩ = some (.slice A9 N9.length cc9) :=
                (one_cell (blk_set (show (w9.setCell ⟨w.heap.size, 0, none⟩ (.slice A9 N9.length cc9)).heap[w.heap.size + 1]? = some (.cells #[.slice none 0 0] 29 (0, 0)) from (Below.heap_setCell _ _ _ (w.heap.size + 1) (by simp)).trans hbr9) 0 _)).1
              have hpost : RCopyPost w M R.nodes c T U (.returned (.tuple #[.agg #[.slice A9 N9.length cc9], .int .i64 (a9 : Int), .int .i64 0])) ((w9.setCell ⟨w.heap.size, 0, none⟩ (.slice A9 N9.length cc9)).setCell ⟨w.heap.size + 1, 0, none⟩ (.slice A9 N9.length cc9)) := by
                have honw : Only M w w9 := by
                  have q1 : Only M w w7 := Only.of_below Hbw7.out _
                  have q2 : Only M w wr := q1.then_ HSt.out.only (fun b hb hl => by
                    rcases hb with hb | hb
                    · exact hb
                    · omega)
                  exact q2.then_ ho9 (fun b hb hl => by
                    rcases HSt.out.mi b hb with h1 | h1
                    · exact h1
                    · omega)
                have hmm : ∀ b, more Mi wr w9 b → M b ∨ (w7.heap.size ≤ b ∧ b < w9.heap.size) := fun b hb => by
                  rcases hb with hb | hb
                  · rcases HSt.out.mi b hb with h1 | h1
                    · exact .inl h1
                    · exact .inr (by omega)
                  · exact .inr (by omega)
                have hlv := hl9.keep hon (fun b hb h => by
                  have h1 : w.heap.size ≤ b ∧ b < w7.heap.size := by rcases hb with rfl | rfl <;> omega
                  rcases hmm b h with h2 | h2
                  · have := HL.out.lt b h2; omega
                  · omega)
                refine ⟨_, a9, N9, c9, rfl, ⟨hlv.out.imp fun ad h => ?_, fun b hb => ?_⟩, Hnv.out.grown.trans hg9, by have := hg9.len; omega, by omega, ha9, by rw [Hσ.out]; exact ht9, honw.then_ hon (fun b hb hl => by rcases hb with rfl | rfl <;> omega)⟩
                · obtain ⟨R2, d2, q1, q2, q3, q4, q5⟩ := h
                  have hm3 : ∀ b, more Mi wr w9 b → more M w ((w9.setCell ⟨w.heap.size, 0, none⟩ (.slice A9 N9.length cc9)).setCell ⟨w.heap.size + 1, 0, none⟩ (.slice A9 N9.length cc9)) b := fun b hb => by
                    rcases hmm b hb with h1 | h1
                    · exact .inl h1
                    · exact .inr (by omega)
                  exact ⟨R2, d2, q1, q2, q3, fun b hb => hm3 b (q4 b hb), fun i2 a2 ha2 x2 hx2 => hm3 _ (q5 i2 a2 ha2 x2 hx2)⟩
                · rcases hb with hb | hb
                  · have := HL.out.lt b hb; omega
                  · exact hb.2
              have Hpost := hide hpost
              clear hpost hon hzo hbs9 hbr9 hl9 hg9 hn9 ha9 ht9 ho9 x0 x1 x2 x3 s0 t0
              obtain ⟨W10, hW10⟩ : ∃ W10, (w9.setCell ⟨w.heap.size, 0, none⟩ (.slice A9 N9.length cc9)).setCell ⟨w.heap.size + 1, 0, none⟩ (.slice A9 N9.length cc9) = W10 := ⟨_, rfl⟩
              rw [hW10] at k0 Hpost
              go_wp2
              exact bodyPost_ret (v := .tuple #[.agg #[.slice A9 N9.length cc9], .int .i64 (a9 : Int), .int .i64 0]) (by simp [results, Try.results29, go_sem, k0]) rfl Hpost.out
end Go.Proofs.Ytafpbdmggnfdnaa

/- The reference's store: Copy of what is unknown, or too great. -/
namespace Go.Proofs.Ytafpbdmggnfdnaa
open Go.RowKit
set_option linter.unusedVariables false

set_option maxRecDepth 100000 in
set_option maxHeartbeats 8000000 in
theorem rcopy_no {w : World} {v : Value} {ad : List (Option Addr × Nat)} {R : RS} {c d : Nat → Nat} (h : RSt w v ad R) (hi : RInv R c d) (n : Int) (A : Option Addr) (cap : Nat) (xs : List Int) (hA : Ints w A xs) (hl : xs.length ≤ 1000000) (err : Int)
    (hbad : (allIn R.nodes.length xs = false ∧ err = 221) ∨ (allIn R.nodes.length xs = true ∧ inB R.nodes.length n = false ∧ err = 221) ∨ (allIn R.nodes.length xs = true ∧ inB R.nodes.length n = true ∧ err = 120 ∧ ∃ T, Stands R.nodes c idF [n.toNat] T ∧ 300 < T.cnt)) :
    Calls Try.prog 29 #[.agg #[v], .int .i64 n, .slice A xs.length cap] w (RCopyNo w v err) := by
  obtain ⟨A0, cap0, hv0, _, _⟩ := own_len h.own
  subst hv0
  obtain ⟨W0, hW0⟩ : ∃ W0, (w.alloc (.cells #[.slice A0 R.nodes.length cap0] 29)).alloc (.cells #[.slice none 0 0] 29) = W0 := ⟨_, rfl⟩
  have hb1 : Below w.heap.size w W0 := by rw [← hW0]; exact ((Below.refl _ _).alloc (Nat.le_refl _) _).alloc (by simp) _
  have hbs : W0.heap[w.heap.size]? = some (.cells #[.slice A0 R.nodes.length cap0] 29 (0, 0)) := by rw [← hW0, Below.heap_alloc _ _ _ (by simp)]; exact heap_alloc_new w _
  have hbr : W0.heap[w.heap.size + 1]? = some (.cells #[.slice none 0 0] 29 (0, 0)) := by
    rw [← hW0]
    have := heap_alloc_new (w.alloc (.cells #[.slice A0 R.nodes.length cap0] 29)) (.cells #[.slice none 0 0] 29)
    rwa [World.size_alloc] at this
  have hz0 : W0.heap.size = w.heap.size + 2 := by rw [← hW0]; simp
  have hz1 : w.heap.size + 2 ≤ W0.heap.size := by omega
  have HW0 := hide hW0; have Hb1 := hide hb1; have Hbs := hide hbs; have Hbr := hide hbr; have Hh := hide h; have HA := hide hA; have Hbad := hide hbad; have Hi := hide hi
  clear hW0 hz0 hb1 hbs hbr h hA hbad hi
  have Hfin : Hid (∀ W, Below w.heap.size w W → W.heap[w.heap.size + 1]? = some (.cells #[.slice none 0 0] 29 (0, 0)) → (W.setCell ⟨w.heap.size + 1, 0, none⟩ (.slice A0 R.nodes.length cap0)).cell? ⟨w.heap.size + 1, 0, none⟩ = some (.slice A0 R.nodes.length cap0) ∧ Below w.heap.size w (W.setCell ⟨w.heap.size + 1, 0, none⟩ (.slice A0 R.nodes.length cap0))) :=
    hide (fun W hb hx => ⟨(one_cell (blk_set hx 0 _)).1, hb.setCell (p := ⟨w.heap.size + 1, 0, none⟩) (by simp) _⟩)
  go_enter Try.func29, Try.ntmps29
  go_upto_region 1 with fail
  simp only [HW0.out]
  go_wp2
  go_loopw [9] (fun vi wr => ∃ k : Nat, vi = .int .i64 k ∧ k ≤ xs.length ∧ Hid (allIn R.nodes.length (xs.take k) = true) ∧ Hid (Below W0.heap.size W0 wr)) (fun vi _ => xs.length - (intOf vi).toNat)
  case atStart => exact ⟨0, rfl, by omega, hide (by simp [allIn]), hide (Below.refl _ _)⟩
  case round =>
    obtain ⟨k, rfl, hk, HAll, HB⟩ := hrel
    have hzr := HB.out.size
    have Hbw := hide (Hb1.out.trans (HB.out.mono (by omega)))
    have Hst := hide (Hh.out.later Hbw.out)
    have hq := (HB.out.block w.heap.size (by omega)).trans Hbs.out
    obtain ⟨s0, t0⟩ := one_cell hq
    have Hq := hide hq
    have Hr := hide ((HB.out.block (w.heap.size + 1) (by omega)).trans Hbr.out)
    clear hq
    by_cases hlt : k < xs.length
    · obtain ⟨b, off, hAe, hb, d0⟩ := HA.out.at_ k hlt
      obtain ⟨x, hx⟩ : ∃ x, xs[k] = x := ⟨_, rfl⟩
      have d1 := (Hbw.out.cell (p := ⟨b, off + k, none⟩) hb).trans d0
      rw [hx] at d1
      have Hx := hide hx
      have HIs := hide (fun W (hW : RSt W (.slice A0 R.nodes.length cap0) ad R) => ris_any hW x)
      have hbl : b < wr.heap.size := by omega
      have hwl : w.heap.size < wr.heap.size := by omega
      have hwl1 : w.heap.size + 1 < wr.heap.size := by omega
      have HAe := hide hAe
      rw [hAe]
      clear d0 hx hAe
      cases hin : inB R.nodes.length x
      · rw [hin] at HIs
        have Herr : Hid (err = 221) := hide (by
          have hno : allIn R.nodes.length xs = false := by
            cases ha : allIn R.nodes.length xs
            · rfl
            · unfold allIn at ha
              rw [List.all_eq_true] at ha
              have := ha x (by rw [← Hx.out]; exact List.getElem_mem _)
              unfold inB at hin
              rw [this] at hin; cases hin
          rcases Hbad.out with ⟨-, h⟩ | ⟨h, -⟩ | ⟨h, -⟩
          · exact h
          · rw [hno] at h; cases h
          · rw [hno] at h; cases h)
        clear hin
        go_wp2
        go_region_held3 (fun w' => w'.cell? ⟨w.heap.size, 0, none⟩ = some (.slice A0 R.nodes.length cap0) ∧ w'.cell? ⟨b, off + k, none⟩ = some (.int .i64 x)) (go_keep)
          (first | (go_at_call 39; refine (HIs.out _ (Hst.out.later (by first | exact Below.refl _ _ | exact (Below.refl _ _).drew))).mono ?_; rintro e w' ⟨rfl, hb'⟩; have r0 := (hb'.cell (p := ⟨w.heap.size, 0, none⟩) hwl).trans s0; have r1 := (hb'.cell (p := ⟨b, off + k, none⟩) hbl).trans d1; have r2 := (hb'.block (w.heap.size + 1) hwl1).trans Hr.out))
        obtain ⟨f2, f3⟩ := one_cell r2
        obtain ⟨k0, kb⟩ := Hfin.out w' (Hbw.out.trans ((Below.refl _ _).drew.trans (hb'.mono (show w.heap.size ≤ wr.heap.size by omega)))) r2
        have Hkb := hide kb; have Hk0 := hide k0
        clear s0 t0 d1 hb' r2 hbl kb k0
        go_wp2
        obtain ⟨W9, hW9⟩ : ∃ W9, w'.setCell ⟨w.heap.size + 1, 0, none⟩ (.slice A0 R.nodes.length cap0) = W9 := ⟨_, rfl⟩
        have k0 := Hk0.out
        rw [hW9] at Hkb k0
        simp only [hW9]
        refine bodyPost_ret (v := .tuple #[.agg #[.slice A0 R.nodes.length cap0], .int .i64 0, .int .i64 221]) (by simp [results, Try.results29, go_sem, k0]) rfl ⟨by rw [Herr.out], Hkb.out⟩
      · rw [hin] at HIs
        have Hin := hide hin
        clear hin
        go_wp2
        go_region_held3 (fun w' => w'.cell? ⟨w.heap.size, 0, none⟩ = some (.slice A0 R.nodes.length cap0) ∧ w'.cell? ⟨b, off + k, none⟩ = some (.int .i64 x)) (go_keep)
          (first | (go_at_call 39; refine (HIs.out _ (Hst.out.later (by first | exact Below.refl _ _ | exact (Below.refl _ _).drew))).mono ?_; rintro e w' ⟨rfl, hb'⟩; have r0 := (hb'.cell (p := ⟨w.heap.size, 0, none⟩) hwl).trans s0; have r1 := (hb'.cell (p := ⟨b, off + k, none⟩) hbl).trans d1))
        have Hb' := hide (HB.out.trans ((Below.refl _ _).drew.trans (hb'.mono hzr)))
        clear s0 t0 d1 hb' r0 r1 hbl
        go_wp2
        go_roundw
        case measure => simp [intOf]; omega
        case rel => exact ⟨k + 1, by go_num, by omega, hide (allIn_snoc _ _ k hlt HAll.out (by rw [Hx.out]; exact Hin.out)), Hb'⟩
    · obtain rfl : k = xs.length := by omega
      have hall := HAll.out
      rw [List.take_length] at hall
      have HIn := hide (ris_any Hst.out n)
      cases hin : inB R.nodes.length n
      · rw [hin] at HIn
        have Herr : Hid (err = 221) := hide (by
          rcases Hbad.out with ⟨h, -⟩ | ⟨-, -, h⟩ | ⟨-, h, -⟩
          · rw [hall] at h; cases h
          · exact h
          · rw [hin] at h; cases h)
        clear hall hin HB hlt hk
        go_wp2_with fail
        refine HIn.out.mono ?_
        rintro e w' ⟨rfl, hb'⟩
        have r0 := (hb'.block w.heap.size (by omega)).trans Hq.out
        have r2 := (hb'.block (w.heap.size + 1) (by omega)).trans Hr.out
        clear s0 t0
        obtain ⟨s0, t0⟩ := one_cell r0
        obtain ⟨f2, f3⟩ := one_cell r2
        obtain ⟨k0, kb⟩ := Hfin.out w' (Hbw.out.trans (hb'.mono (by omega))) r2
        have Hkb := hide kb; have Hk0 := hide k0
        clear hb' r0 r2 kb k0
        go_wp2
        obtain ⟨W9, hW9⟩ : ∃ W9, w'.setCell ⟨w.heap.size + 1, 0, none⟩ (.slice A0 R.nodes.length cap0) = W9 := ⟨_, rfl⟩
        have k0 := Hk0.out
        rw [hW9] at Hkb k0
        simp only [hW9]
        refine bodyPost_ret (v := .tuple #[.agg #[.slice A0 R.nodes.length cap0], .int .i64 0, .int .i64 221]) (by simp [results, Try.results29, go_sem, k0]) rfl ⟨by rw [Herr.out], Hkb.out⟩
      · rw [hin] at HIn
        obtain ⟨herr, T, hT, hbig⟩ : err = 120 ∧ ∃ T, Stands R.nodes c idF [n.toNat] T ∧ 300 < T.cnt := by
          rcases Hbad.out with ⟨h, -⟩ | ⟨-, h, -⟩ | ⟨-, -, h⟩
          · rw [hall] at h; cases h
          · rw [hin] at h; cases h
          · exact h
        have hnn := inB_nat hin
        have Herr := hide herr
        have hSz := fun (W : World) (hW : RSt W (.slice A0 R.nodes.length cap0) ad R) => rSize_yes hW Hi.out n.toNat hnn.2 T hT
        rw [← hnn.1, show capped T.cnt = 301 by unfold capped; rw [if_neg (by omega)]] at hSz
        have HSz := hide hSz
        clear hall hin HB hlt hk herr hT hbig hnn hSz
        go_wp2_with fail
        refine HIn.out.mono ?_
        rintro e w2 ⟨rfl, hb2⟩
        have hz2 := hb2.size
        have Hb2 := hide (Hbw.out.trans (hb2.mono (by omega)))
        have Hq2 := hide ((hb2.block w.heap.size (by omega)).trans Hq.out)
        have Hr2 := hide ((hb2.block (w.heap.size + 1) (by omega)).trans Hr.out)
        clear s0 t0 hb2
        obtain ⟨s0, t0⟩ := one_cell Hq2.out
        go_wp2_with fail
        refine (HSz.out w2 (Hh.out.later Hb2.out)).mono ?_
        rintro e w' ⟨rfl, hb'⟩
        have r0 := (hb'.block w.heap.size (by omega)).trans Hq2.out
        have r2 := (hb'.block (w.heap.size + 1) (by omega)).trans Hr2.out
        clear s0 t0
        obtain ⟨s0, t0⟩ := one_cell r0
        obtain ⟨f2, f3⟩ := one_cell r2
        obtain ⟨k0, kb⟩ := Hfin.out w' (Hb2.out.trans (hb'.mono (by omega))) r2
        have Hkb := hide kb; have Hk0 := hide k0
        clear hb' r0 r2 kb k0
        go_wp2
        obtain ⟨W9, hW9⟩ : ∃ W9, w'.setCell ⟨w.heap.size + 1, 0, none⟩ (.slice A0 R.nodes.length cap0) = W9 := ⟨_, rfl⟩
        have k0 := Hk0.out
        rw [hW9] at Hkb k0
        simp only [hW9]
        refine bodyPost_ret (v := .tuple #[.agg #[.slice A0 R.nodes.length cap0], .int .i64 0, .int .i64 120]) (by simp [results, Try.results29, go_sem, k0]) rfl ⟨by rw [Herr.out], Hkb.out⟩
end Go.Proofs.Ytafpbdmggnfdnaa

/- Plain: both copies stand for the same. -/
namespace Go.Proofs.Ytafpbdmggnfdnaa
set_option linter.unusedVariables false

theorem cast_back (ns : List Nat) : (cast ns).map Int.toNat = ns := by
  induction ns with
  | nil => rfl
  | cons a l ih =>
    unfold cast at *
    simp only [List.map_cons, Int.toNat_natCast]
    rw [ih]
theorem tree_mapv {N : List Nd} {c c' : Nat → Nat} {is : List Nat} {T T' : Fo} (h : ClsOk N c) (hs : SameC N c c') (hi : ∀ i ∈ is, i < N.length) (k : TreeOf N c is T) (k' : TreeOf N c' is T') : T' = T.mapv c' := by
  obtain ⟨F, hF, hT⟩ := k
  obtain ⟨F', hF', hT'⟩ := k'
  exact Stands.same h.wf h.closed hs.1 hs.2 h.roots hF hF' hT is T' hi hi rfl (fun k i j h1 h2 => by rw [h1] at h2; injection h2 with e; rw [e]) hT'
/-- Two numberings are apart where the classes are. -/
theorem roots_inj {N : List Nd} {c c' : Nat → Nat} (hs : SameC N c c') {x y : Nat} (hx : x < N.length ∧ c x = x) (hy : y < N.length ∧ c y = y) (e : c' x = c' y) : x = y := by
  have := hs.2 x y hx.1 hy.1 e
  rwa [hx.2, hy.2] at this
theorem newL_mapv {N : List Nd} {c c' : Nat → Nat} (hs : SameC N c c') (T U : Fo) (hT : ∀ v ∈ T.vars, v < N.length ∧ c v = v) (hU : ∀ v ∈ U.vars, v < N.length ∧ c v = v) : newL (T.mapv c') (U.mapv c') = (newL T U).map c' := by
  unfold newL
  rw [Fo.vars_mapv, Fo.vars_mapv]
  have h1 := addNew_map c' T.vars [] (fun x hx y hy e => roots_inj hs (hT x (by simpa using hx)) (hT y (by simpa using hy)) e)
  rw [List.map_nil] at h1
  rw [h1, List.filter_map]
  congr 1
  refine List.filter_congr (fun v hv => ?_)
  have hvT : v ∈ T.vars := by simpa using (addNew_mem _ _ _).1 hv
  simp only [Function.comp]
  rw [decide_eq_decide]
  refine not_congr ⟨fun h => ?_, fun h => List.mem_map_of_mem h⟩
  obtain ⟨u, hu, e⟩ := List.mem_map.1 h
  rw [← roots_inj hs (hU u hu) (hT v hvT) e]; exact hu
def phi (n : Nat) (c' : Nat → Nat) : Nat → Nat := fun x => if x < n then c' x else x
theorem sg_phi {N : List Nd} {c c' : Nat → Nat} (hs : SameC N c c') (T U : Fo) (hT : ∀ v ∈ T.vars, v < N.length ∧ c v = v) (hU : ∀ v ∈ U.vars, v < N.length ∧ c v = v) {v : Nat} (hv : v ∈ T.vars) :
    sgOf N.length (newL (T.mapv c') (U.mapv c')) (c' v) = phi N.length c' (sgOf N.length (newL T U) v) := by
  rw [newL_mapv hs T U hT hU]
  have hin : ∀ x ∈ newL T U, c' x = c' v → x = v := fun x hx e => roots_inj hs (hT x ((newL_mem T U x).1 hx).1) (hT v hv) e
  by_cases h : v ∈ newL T U
  · have h1 : sgOf N.length (newL T U) v = N.length + (newL T U).idxOf v := by unfold sgOf; rw [if_pos h]
    have h2 : sgOf N.length ((newL T U).map c') (c' v) = N.length + ((newL T U).map c').idxOf (c' v) := by unfold sgOf; rw [if_pos (List.mem_map_of_mem h)]
    rw [h1, h2, idxOf_map c' _ v hin]
    unfold phi
    rw [if_neg (by omega)]
  · have h1 : sgOf N.length (newL T U) v = v := by unfold sgOf; rw [if_neg h]
    have h2 : sgOf N.length ((newL T U).map c') (c' v) = c' v := by
      unfold sgOf
      rw [if_neg (fun hm => by
        obtain ⟨u, hu, e⟩ := List.mem_map.1 hm
        exact h (by rw [← hin u hu e]; exact hu))]
    rw [h1, h2]
    unfold phi
    rw [if_pos (hT v hv).1]
/-- What both copies, beside what was there, are told as. -/
theorem copy_same {N N1 N2 : List Nd} {c c' c1 c2 : Nat → Nat} {ns ks : List Nat} {x a b : Nat} {T U T' U' Tb : Fo} (h : ClsOk N c) (h' : ClsOk N c') (hs : SameC N c c') (hx : x < N.length) (hks : ∀ k ∈ ks, k < N.length) (hns : ∀ k ∈ ns, k < N.length)
    (hT : TreeOf N c [x] T) (hU : TreeOf N c ks U) (hT' : TreeOf N c' [x] T') (hU' : TreeOf N c' ks U') (hTb : TreeOf N c ns Tb) (hbig : ∀ y ∈ ns, ∀ B, TreeOf N c [y] B → B.cnt ≤ 300) (hTc : T.cnt ≤ 300)
    (k1 : ClsOk N1 c1) (g1 : Grown N c N1 c1) (a1 : a < N1.length) (t1 : TreeOf N1 c1 [a] (T.mapv (sgOf N.length (newL T U)))) (k2 : ClsOk N2 c2) (g2 : Grown N c' N2 c2) (b2 : b < N2.length) (t2 : TreeOf N2 c2 [b] (T'.mapv (sgOf N.length (newL T' U')))) :
    ∃ F, TyCase N1 c1 (cast ns ++ [(a : Int)]) 0 F ∧ TyCase N2 c2 (cast ns ++ [(b : Int)]) 0 F ∧ F.cnt ≤ 300 * ns.length + 300 := by
  have hTv := hT.vars_ok h (by simpa using hx)
  have hUv := hU.vars_ok h hks
  have hTbv := hTb.vars_ok h hns
  obtain ⟨Tb', hTb'⟩ := h'.trees ns hns
  have eT := tree_mapv h hs (by simpa using hx) hT hT'
  have eU := tree_mapv h hs hks hU hU'
  have eB := tree_mapv h hs hns hTb hTb'
  have e2 : Tb'.app (T'.mapv (sgOf N.length (newL T' U'))) = (Tb.app (T.mapv (sgOf N.length (newL T U)))).mapv (phi N.length c') := by
    rw [Fo.mapv_app, eB]
    congr 1
    · exact Fo.mapv_congr Tb (fun v hv => by unfold phi; rw [if_pos (hTbv v hv).1])
    · rw [eT, eU, Fo.mapv_mapv, Fo.mapv_mapv]
      exact Fo.mapv_congr T (fun v hv => sg_phi hs T U hTv hUv hv)
  have hvars : ∀ v ∈ (Tb.app (T.mapv (sgOf N.length (newL T U)))).vars, (v < N.length ∧ c v = v) ∨ N.length ≤ v := by
    intro v hv
    rw [Fo.vars_app, Fo.vars_mapv] at hv
    rcases List.mem_append.1 hv with hv | hv
    · exact .inl (hTbv v hv)
    · obtain ⟨u, hu, rfl⟩ := List.mem_map.1 hv
      unfold sgOf
      by_cases e : u ∈ newL T U
      · rw [if_pos e]; exact .inr (by omega)
      · rw [if_neg e]; exact .inl (hTv u hu)
  have hren : ren (Tb'.app (T'.mapv (sgOf N.length (newL T' U')))) = ren (Tb.app (T.mapv (sgOf N.length (newL T U)))) := by
    rw [e2]
    refine ren_mapv _ _ (fun u hu v hv e => ?_)
    unfold phi at e
    rcases hvars u hu with hu1 | hu1 <;> rcases hvars v hv with hv1 | hv1
    · rw [if_pos hu1.1, if_pos hv1.1] at e; exact roots_inj hs hu1 hv1 e
    · rw [if_pos hu1.1, if_neg (by omega)] at e
      have := (h'.roots u hu1.1).1; omega
    · rw [if_neg (by omega), if_pos hv1.1] at e
      have := (h'.roots v hv1.1).1; omega
    · rw [if_neg (by omega), if_neg (by omega)] at e; exact e
  have l1 := g1.len; have l2 := g2.len
  have hmap : ∀ z : Nat, (cast ns ++ [(z : Int)]).map Int.toNat = ns ++ [z] := fun z => by rw [List.map_append, cast_back]; rfl
  have hin : ∀ (M : List Nd) (z : Nat), N.length ≤ M.length → z < M.length → allIn M.length (cast ns ++ [(z : Int)]) = true := fun M z hM hz => by
    unfold allIn
    rw [List.all_eq_true]
    intro y hy
    rcases List.mem_append.1 hy with hy | hy
    · obtain ⟨q, hq, rfl⟩ := List.mem_map.1 hy
      have := hns q hq
      simp; omega
    · simp at hy; subst hy; simp; omega
  have hbig' : ∀ y ∈ ns, ∀ B, TreeOf N c' [y] B → B.cnt ≤ 300 := fun y hy B hB => by
    obtain ⟨B0, hB0⟩ := h.trees [y] (by simpa using hns y hy)
    rw [(tree_same h.wf h.closed hs h.roots (by simpa using hns y hy) hB0 hB).1]
    exact hbig y hy B0 hB0
  have nb : ∀ (M : List Nd) (cM c0 : Nat → Nat) (z : Nat) (S : Fo), ClsOk N c0 → ClsOk M cM → Grown N c0 M cM → z < M.length → TreeOf M cM [z] S → S.cnt ≤ 300 → (∀ y ∈ ns, ∀ B, TreeOf N c0 [y] B → B.cnt ≤ 300) → ¬ bigIn M cM (cast ns ++ [(z : Int)]) := by
    rintro M cM c0 z S hok0 hokM hg hz hS hSc hb ⟨y, hy, B, hB, hc⟩
    rw [hmap] at hy
    rcases List.mem_append.1 hy with hy | hy
    · obtain ⟨B0, hB0⟩ := hok0.trees [y] (by simpa using hns y hy)
      have := (hB0.grown hok0 hg (by simpa using hns y hy)).uniq hokM (by have := hg.len; have := hns y hy; simp; omega) hB
      rw [← this] at hc
      have := hb y hy B0 hB0; omega
    · simp at hy; subst hy
      rw [hB.uniq hokM (by simpa using hz) hS] at hc; omega
  have q1 : TreeOf N1 c1 ((cast ns ++ [(a : Int)]).map Int.toNat) (Tb.app (T.mapv (sgOf N.length (newL T U)))) := by
    rw [hmap]
    exact (hTb.grown h g1 hns).app k1 (fun y hy => by have := hns y hy; omega) (by simpa using a1) t1
  have q2 : TreeOf N2 c2 ((cast ns ++ [(b : Int)]).map Int.toNat) (Tb'.app (T'.mapv (sgOf N.length (newL T' U')))) := by
    rw [hmap]
    exact (hTb'.grown h' g2 hns).app k2 (fun y hy => by have := hns y hy; omega) (by simpa using b2) t2
  have hT'c : T'.cnt = T.cnt := by rw [eT, Fo.cnt_mapv]
  refine ⟨ren (Tb.app (T.mapv (sgOf N.length (newL T U)))), .fit (hin N1 a l1 a1) (nb N1 c1 c a _ h k1 g1 a1 t1 (by rw [Fo.cnt_mapv]; exact hTc) hbig) _ q1, ?_, ?_⟩
  · rw [← hren]
    exact .fit (hin N2 b l2 b2) (nb N2 c2 c' b _ h' k2 g2 b2 t2 (by rw [Fo.cnt_mapv, hT'c]; exact hTc) hbig') _ q2
  · rw [ren_cnt, Fo.cnt_app, Fo.cnt_mapv]
    have := hTb.cnt_le h hns hbig
    omega
/-- What was there is told as before. -/
theorem tycase_grown {N N1 : List Nd} {c c1 : Nat → Nat} {ns : List Nat} (h : ClsOk N c) (k1 : ClsOk N1 c1) (g1 : Grown N c N1 c1) (hns : ∀ k ∈ ns, k < N.length) {Tb : Fo} (hTb : TreeOf N c ns Tb) (hbig : ∀ y ∈ ns, ∀ B, TreeOf N c [y] B → B.cnt ≤ 300) : TyCase N1 c1 (cast ns) 0 (ren Tb) := by
  have l1 := g1.len
  have hmap : (cast ns).map Int.toNat = ns := cast_back ns
  refine .fit ?_ ?_ Tb (by rw [hmap]; exact hTb.grown h g1 hns)
  · unfold allIn
    rw [List.all_eq_true]
    intro y hy
    obtain ⟨q, hq, rfl⟩ := List.mem_map.1 hy
    have := hns q hq
    simp; omega
  · rintro ⟨y, hy, B, hB, hc⟩
    rw [hmap] at hy
    obtain ⟨B0, hB0⟩ := h.trees [y] (by simpa using hns y hy)
    have := (hB0.grown h g1 (by simpa using hns y hy)).uniq k1 (by have := hns y hy; simp; omega) hB
    rw [← this] at hc
    have := hbig y hy B0 hB0; omega
end Go.Proofs.Ytafpbdmggnfdnaa
