/- Part 21 of the proof of UnifyCopies: what follows was kept as these texts: ProgCopyNo, RefWithin. -/
import Derived.Test.YtafpbdmggnfdnaaUnifyCopiesPt1
import Derived.Test.YtafpbdmggnfdnaaUnifyCopiesPt2
import Derived.Test.YtafpbdmggnfdnaaUnifyCopiesPt3
import Derived.Test.YtafpbdmggnfdnaaUnifyCopiesPt4
import Derived.Test.YtafpbdmggnfdnaaUnifyCopiesPt5
import Derived.Test.YtafpbdmggnfdnaaUnifyCopiesPt6
import Derived.Test.YtafpbdmggnfdnaaUnifyCopiesPt7
import Derived.Test.YtafpbdmggnfdnaaUnifyCopiesPt8
import Derived.Test.YtafpbdmggnfdnaaUnifyCopiesPt9
import Derived.Test.YtafpbdmggnfdnaaUnifyCopiesPt10
import Derived.Test.YtafpbdmggnfdnaaUnifyCopiesPt11
import Derived.Test.YtafpbdmggnfdnaaUnifyCopiesPt12
import Derived.Test.YtafpbdmggnfdnaaUnifyCopiesPt13
import Derived.Test.YtafpbdmggnfdnaaUnifyCopiesPt14
import Derived.Test.YtafpbdmggnfdnaaUnifyCopiesPt15
import Derived.Test.YtafpbdmggnfdnaaUnifyCopiesPt16
import Derived.Test.YtafpbdmggnfdnaaUnifyCopiesPt17
import Derived.Test.YtafpbdmggnfdnaaUnifyCopiesPt18
import Derived.Test.YtafpbdmggnfdnaaUnifyCopiesPt19
import Derived.Test.YtafpbdmggnfdnaaUnifyCopiesPt20
/- The program's store: Copy of what is unknown, or too great. -/
namespace Go.Proofs.Ytafpbdmggnfdnaa
open Go.RowKit Go.Shelf Go.Maps
set_option linter.unusedVariables false
attribute [local go_sem] Oper.semAt_some

def CopyNo (w : World) (err : Int) (e : Ending) (w' : World) : Prop := e = .returned (.tuple #[.int .i64 0, .int .i64 err]) ∧ Below w.heap.size w w'
set_option maxRecDepth 100000 in
set_option maxHeartbeats 4000000 in
theorem copy_no {w : World} {Wr Rd : Nat → Prop} {g : Nat} {N : List Nd} {c : Nat → Nat} (h : LiveF Wr Rd g N c w) (n : Int) (A : Option Addr) (cap : Nat) (xs : List Int) (hA : Ints w A xs) (hl : xs.length ≤ 1000000) (hbad : inB N.length n = false ∨ allIn N.length xs = false) :
    Calls Try.prog 28 #[.pointer (some ⟨g, 0, none⟩), .int .i64 n, .slice A xs.length cap] w (CopyNo w 221) := by
  obtain ⟨w1, hw1⟩ : ∃ w1, w.alloc (.cells #[.int .i64 n] 3) = w1 := ⟨_, rfl⟩
  have hb1 : Below w.heap.size w w1 := by rw [← hw1]; exact (Below.refl _ _).alloc (Nat.le_refl _) _
  have hK1 := callsIn_wide (n := 4) |>.2 (livef_known (h.later hb1) (some ⟨w.heap.size, 0, none⟩) 1 [n] (by rw [← hw1]; exact ints_one w n _) (by simp))
  have hK2 := callsIn_wide (n := 4) |>.2 (livef_known (h.later hb1) A cap xs (Ints.below hA hb1) hl)
  rw [allIn_one] at hK1
  have Hw1 := hide hw1; have Hb1 := hide hb1; have HK2 := hide hK2
  clear hw1 hb1 h hA hK2
  cases hn : inB N.length n
  · rw [hn] at hK1
    have HK1 := hide hK1
    clear hK1 hn hbad
    refine (callsIn_wide (n := 5)).1 ?_
    refine callsIn_of_wp_marks Try.func28 rfl trivial ?_ rfl
    simp only [Try.ntmps28, List.size_toArray, List.length_cons, List.length_nil, Nat.reduceAdd, Nat.reduceSub, Array.replicate_succ, Array.replicate_zero, List.push_toArray, List.append_toArray, List.nil_append, List.cons_append]
    gi_wp2_with fail
    rw [Hw1.out]
    refine ⟨trivial, HK1.out.mono ?_⟩
    rintro e w2 ⟨rfl, rfl⟩
    gi_wp2
    refine ⟨trivial, ?_⟩
    gi_wp2
    exact ⟨.tuple #[.int .i64 0, .int .i64 221], by simp [results, Try.results28, go_sem], rfl, Hb1.out⟩
  · rw [hn] at hK1
    have hx : allIn N.length xs = false := by
      rcases hbad with h | h
      · rw [hn] at h; cases h
      · exact h
    rw [hx] at HK2
    have HK1 := hide hK1
    clear hK1 hn hbad hx
    refine (callsIn_wide (n := 5)).1 ?_
    refine callsIn_of_wp_marks Try.func28 rfl trivial ?_ rfl
    simp only [Try.ntmps28, List.size_toArray, List.length_cons, List.length_nil, Nat.reduceAdd, Nat.reduceSub, Array.replicate_succ, Array.replicate_zero, List.push_toArray, List.append_toArray, List.nil_append, List.cons_append]
    gi_wp2_with fail
    rw [Hw1.out]
    refine ⟨trivial, HK1.out.mono ?_⟩
    rintro e w2 ⟨rfl, rfl⟩
    gi_wp2_with fail
    refine ⟨trivial, HK2.out.mono ?_⟩
    rintro e w2 ⟨rfl, rfl⟩
    gi_wp2
    exact ⟨.tuple #[.int .i64 0, .int .i64 221], by simp [results, Try.results28, go_sem], rfl, Hb1.out⟩
set_option maxRecDepth 100000 in
set_option maxHeartbeats 4000000 in
theorem copy_big {w : World} {Wr Rd : Nat → Prop} {g : Nat} {N : List Nd} {c : Nat → Nat} (h : LiveF Wr Rd g N c w) (n : Nat) (hn : n < N.length) (A : Option Addr) (cap : Nat) (xs : List Int) (hA : Ints w A xs) (hl : xs.length ≤ 1000000) (hall : allIn N.length xs = true) (T : Fo) (hT : TreeOf N c [n] T) (hTc : 300 < T.cnt) :
    Calls Try.prog 28 #[.pointer (some ⟨g, 0, none⟩), .int .i64 (n : Int), .slice A xs.length cap] w (CopyNo w 120) := by
  have hone : allIn N.length [(n : Int)] = true := by simp [allIn]; omega
  obtain ⟨w1, hw1⟩ : ∃ w1, w.alloc (.cells #[.int .i64 (n : Int)] 3) = w1 := ⟨_, rfl⟩
  have hb1 : Below w.heap.size w w1 := by rw [← hw1]; exact (Below.refl _ _).alloc (Nat.le_refl _) _
  have hK1 := callsIn_wide (n := 4) |>.2 (livef_known (h.later hb1) (some ⟨w.heap.size, 0, none⟩) 1 [(n : Int)] (by rw [← hw1]; exact ints_one w (n : Int) _) (by simp))
  have hK2 := callsIn_wide (n := 4) |>.2 (livef_known (h.later hb1) A cap xs (Ints.below hA hb1) hl)
  have hSz := callsIn_wide (n := 4) |>.2 (livef_size (h.later hb1) n hn T hT)
  rw [hone] at hK1
  rw [hall] at hK2
  rw [show capped T.cnt = 301 by unfold capped; rw [if_neg (by omega)]] at hSz
  have HK1 := hide hK1; have HK2 := hide hK2; have HSz := hide hSz; have Hw1 := hide hw1; have Hb1 := hide hb1
  clear hone hK1 hK2 hSz hw1 hb1 h hA hall hT
  refine (callsIn_wide (n := 5)).1 ?_
  refine callsIn_of_wp_marks Try.func28 rfl trivial ?_ rfl
  simp only [Try.ntmps28, List.size_toArray, List.length_cons, List.length_nil, Nat.reduceAdd, Nat.reduceSub, Array.replicate_succ, Array.replicate_zero, List.push_toArray, List.append_toArray, List.nil_append, List.cons_append]
  gi_wp2_with fail
  rw [Hw1.out]
  refine ⟨trivial, HK1.out.mono ?_⟩
  rintro e w2 ⟨rfl, rfl⟩
  gi_wp2_with fail
  refine ⟨trivial, HK2.out.mono ?_⟩
  rintro e w2 ⟨rfl, rfl⟩
  gi_wp2_with fail
  refine ⟨trivial, HSz.out.mono ?_⟩
  rintro e w2 ⟨rfl, hb2⟩
  have Hb2 := hide (Hb1.out.trans (hb2.mono Hb1.out.size))
  clear hb2 HK1 HK2 HSz
  gi_wp2
  exact ⟨.tuple #[.int .i64 0, .int .i64 120], by simp [results, Try.results28, go_sem], rfl, Hb2.out⟩
end Go.Proofs.Ytafpbdmggnfdnaa

/- The reference's store: within (the variables within nodes, marked). -/
namespace Go.Proofs.Ytafpbdmggnfdnaa
open Go.RowKit
set_option linter.unusedVariables false

/-- All variables within this node are marked. -/
def AllM (N : List Nd) (c : Nat → Nat) (l : List Nat) (m : Nat) : Prop := ∀ T, Stands N c idF [m] T → ∀ v ∈ T.vars, 0 < par l v
theorem AllM.mono {N : List Nd} {c : Nat → Nat} {l l' : List Nat} {m : Nat} (h : AllM N c l m) (hu : ∀ v, 0 < par l v → 0 < par l' v) : AllM N c l' m := fun T hT v hv => hu v (h T hT v hv)
structure MkStep (N : List Nd) (c : Nat → Nat) (l l' : List Nat) (T : Fo) : Prop where
  up : ∀ m, 0 < par l m → 0 < par l' m
  new : ∀ m, 0 < par l' m → 0 < par l m ∨ AllM N c l' m
  all : ∀ v ∈ T.vars, 0 < par l' v
  only : ∀ v p, N[v]? = some p → p.kind = 1 → 0 < par l' v → 0 < par l v ∨ v ∈ T.vars
def WithinPost (w : World) (R : RS) (c : Nat → Nat) (gs : Nat) (l : List Nat) (T : Fo) (e : Ending) (w' : World) : Prop :=
  (∃ v, e = .returned v) ∧ Only (fun b => b = gs) w w' ∧ ∃ l', l'.length = R.nodes.length ∧ Arr w' gs l' ∧ MkStep R.nodes c l l' T
theorem Stands.oneT {N : List Nd} {c F : Nat → Nat} {x : Nat} {T : Fo} {p : Nd} (h : Stands N c F [x] T) (hw : Wf N) (hp : N[F (c x)]? = some p) :
    ∃ A, Stands N c F p.args A ∧ T.cnt = 1 + A.cnt ∧ ((p.kind = 1 ∧ p.args = [] ∧ A = .nil ∧ T = .var (c x) .nil) ∨ (p.kind ≠ 1 ∧ T = .con p.kind p.name A .nil)) := by
  cases h with
  | @var _ _ _ P' hP' hkd hrr =>
    cases hrr
    rw [hp] at hP'; injection hP' with e; subst e
    have h2 := (hw _ p hp).2 hkd
    exact ⟨.nil, by rw [h2]; exact .nil, by simp [Fo.cnt], .inl ⟨hkd, h2, rfl, rfl⟩⟩
  | @con _ _ A _ P' hP' hkd haa hrr =>
    cases hrr
    rw [hp] at hP'; injection hP' with e; subst e
    exact ⟨A, haa, by simp [Fo.cnt], .inr ⟨hkd, rfl⟩⟩
/-- At the head of a round over the arguments. -/
structure WiRel (W1 : World) (R : RS) (c : Nat → Nat) (gs r : Nat) (l : List Nat) (args : List Nat) (A : Fo) (i : Nat) (li : List Nat) (wr : World) : Prop where
  only : Only (fun b => b = gs) W1 wr
  len : li.length = R.nodes.length
  arr : Arr wr gs li
  up : ∀ m, m = r ∨ 0 < par l m → 0 < par li m
  new : ∀ m, 0 < par li m → m = r ∨ 0 < par l m ∨ AllM R.nodes c li m
  parts : ∃ Ai Ri, A = Ai.app Ri ∧ Stands R.nodes c idF (args.take i) Ai ∧ Stands R.nodes c idF (args.drop i) Ri ∧ (∀ v ∈ Ai.vars, 0 < par li v) ∧ ∀ v p, R.nodes[v]? = some p → p.kind = 1 → 0 < par li v → v = r ∨ 0 < par l v ∨ v ∈ Ai.vars
theorem wirel_next {W1 wr w' : World} {R : RS} {c : Nat → Nat} {gs r i y : Nat} {l args li l' : List Nat} {A Ai Ri B R' : Fo} (h : WiRel W1 R c gs r l args A i li wr) (ho : Only (fun b => b = gs) wr w') (hl : l'.length = R.nodes.length) (ha : Arr w' gs l') (hm : MkStep R.nodes c li l' B)
    (hlt : i < args.length) (hy : args[i] = y) (hsp : A = Ai.app Ri) (hs1 : Stands R.nodes c idF (args.take i) Ai) (hRR : Ri = B.app R') (hsB : Stands R.nodes c idF [y] B) (hsR : Stands R.nodes c idF (args.drop (i + 1)) R') (hall : ∀ v ∈ Ai.vars, 0 < par li v) (hon : ∀ v p, R.nodes[v]? = some p → p.kind = 1 → 0 < par li v → v = r ∨ 0 < par l v ∨ v ∈ Ai.vars) :
    WiRel W1 R c gs r l args A (i + 1) l' w' := by
  refine ⟨h.only.trans ho, hl, ha, fun m hmr => hm.up m (h.up m hmr), fun m hml => ?_, Ai.app B, R', by rw [hsp, hRR, Fo.app_assoc], by rw [List.take_succ_eq_append_getElem hlt, hy]; exact hs1.app hsB, hsR, fun v hv => ?_, fun v p hp hk hv => ?_⟩
  · rcases hm.new m hml with h1 | h1
    · rcases h.new m h1 with h2 | h2 | h2
      · exact .inl h2
      · exact .inr (.inl h2)
      · exact .inr (.inr (h2.mono hm.up))
    · exact .inr (.inr h1)
  · rw [Fo.vars_app] at hv
    rcases List.mem_append.1 hv with hv | hv
    · exact hm.up v (hall v hv)
    · exact hm.all v hv
  · rw [Fo.vars_app]
    rcases hm.only v p hp hk hv with h1 | h1
    · rcases hon v p hp hk h1 with h2 | h2 | h2
      · exact .inl h2
      · exact .inr (.inl h2)
      · exact .inr (.inr (by simp [h2]))
    · exact .inr (.inr (by simp [h1]))
set_option maxRecDepth 100000 in
set_option maxHeartbeats 4000000 in
theorem rwithin_any {v : Value} {ad : List (Option Addr × Nat)} {R : RS} {c d : Nat → Nat} (hi : RInv R c d) (gr : Nat → Nat) (hgr : Resp R.nodes.length c gr) (hgl : ∀ (i : Nat) (p : Nd), R.nodes[i]? = some p → ∀ a ∈ p.args, gr a < gr i) (gs : Nat) (hvg : v.ownBlock ≠ some gs) (hag : ∀ (i : Nat) (a : Option Addr × Nat), ad[i]? = some a → ∀ z, a.1 = some z → z.block ≠ gs) (k : Nat) : ∀ (x : Nat) (T : Fo) (l : List Nat) (w : World), T.cnt ≤ k → x < R.nodes.length → l.length = R.nodes.length → Stands R.nodes c idF [x] T → RSt w v ad R → Arr w gs l → (∀ m, 0 < par l m → gr m ≤ gr x → AllM R.nodes c l m) →
    Calls Try.prog 53 #[.agg #[v], .int .i64 (x : Int), .slice (some ⟨gs, 0, none⟩) l.length l.length] w (WithinPost w R c gs l T) := by
  induction k with
  | zero =>
    intro x T l w hk _ _ hS
    have := hS.cnt_pos
    omega
  | succ k ih =>
    intro x T l w hk hx hl hS h ha hpre
    obtain ⟨g, cap0, hv0, hcap0⟩ := own_pos h.own (by omega)
    subst hv0
    have hm := h.many
    have hgl' : g < w.heap.size := h.lt g rfl
    have hgsl := ha.lt
    have hroot := hi.root x hx
    have hgx : gr x = gr (c x) := hgr x (c x) hx hroot.1 hroot.2.2.symm
    have hb1 : Below w.heap.size w (w.alloc (.cells #[.slice (some ⟨g, 0, none⟩) R.nodes.length cap0] 29)) := (Below.refl _ _).alloc (Nat.le_refl _) _
    have HF := hide (rfind_any (h.later hb1) hi.forest x hx)
    have hbox := heap_alloc_new w (.cells #[.slice (some ⟨g, 0, none⟩) R.nodes.length cap0] 29)
    have hz1 : (w.alloc (.cells #[.slice (some ⟨g, 0, none⟩) R.nodes.length cap0] 29)).heap.size = w.heap.size + 1 := World.size_alloc _ _
    obtain ⟨W0, hW0⟩ : ∃ W0, w.alloc (.cells #[.slice (some ⟨g, 0, none⟩) R.nodes.length cap0] 29) = W0 := ⟨_, rfl⟩
    rw [hW0] at hb1 HF hbox hz1
    have hS' := hS.root hroot.2.2
    rw [hgx] at hpre
    have HW0 := hide hW0; have Hb1 := hide hb1; have Hbox := hide hbox; have Hh := hide h; have Ha := hide ha; have Hpre := hide hpre; have Hi := hide hi; have IH := hide ih; have Hl := hide hl; have Hag := hide hag; have Hvg := hide hvg; have Hz1 := hide hz1; have Hgr := hide hgr; have Hgl := hide hgl
    clear hW0 hb1 hbox h ha hpre hi ih hag hvg hz1 hS hgx hgr hgl
    obtain ⟨r, hr⟩ : ∃ r, c x = r := ⟨_, rfl⟩
    rw [hr] at HF hroot hS' Hpre
    have HS := hide hS'
    have hrn := hroot.1
    have Hroot := hide hroot
    have hll : l.length ≤ 1000000 := by omega
    have hrl : r < l.length := by omega
    clear hr hroot hl hS'
    go_enter Try.func53, Try.ntmps53
    go_wp2_with fail
    rw [HW0.out]
    refine HF.out.mono ?_
    rintro e W1 ⟨rfl, hb2⟩
    have hz1 := Hz1.out
    have hz2 := hb2.size
    have Hb2 := hide hb2
    have Hbw := hide (Hb1.out.trans (hb2.mono (by omega)))
    have Harr := hide (Ha.out.keep (Hbw.out.block gs hgsl))
    have c1 := Harr.out.cell r hrl
    have hgs1 : gs < W1.heap.size := by omega
    clear hb2 hz1 hz2
    by_cases h0 : 0 < par l r
    · have Hall := hide (Hpre.out r h0 (Nat.le_refl _) T HS.out)
      obtain ⟨q, hq⟩ : ∃ q, par l r = q := ⟨_, rfl⟩
      rw [hq] at c1 h0
      have k1 : decide ((0 : Int) < (q : Int)) = true := by simp; omega
      have k2 : decide (0 < q) = true := by simp; omega
      clear hq
      go_wp2
      refine bodyPost_ret (results_none rfl _ _ _) rfl ?_
      exact ⟨⟨_, rfl⟩, Only.of_below Hbw.out _, l, Hl.out, Harr.out, fun _ h => h, fun m h => .inl h, Hall.out, fun _ _ _ _ h => .inl h⟩
    · have hp0 : par l r = 0 := by omega
      rw [hp0] at c1
      have Hp0 := hide hp0
      clear h0 hp0
      have c2 := Harr.out.free r
      obtain ⟨P, ax, hP, hax, -⟩ := Hh.out.node hrn rfl
      have HP := hide hP; have Hax := hide hax
      have hPf := Hh.out.few _ _ hP
      obtain ⟨A, hA, hcA, hdec⟩ := HS.out.oneT Hi.out.wf (p := P) (by rw [Hroot.out.2.2]; exact hP)
      have hAk : A.cnt ≤ k := by omega
      have Hdec := hide hdec
      have hst1 := Hh.out.later Hbw.out
      have hbox1 := (Hb2.out.block w.heap.size (by have := Hz1.out; omega)).trans Hbox.out
      have hw1 : w.heap.size < W1.heap.size := (Array.getElem?_eq_some_iff.1 hbox1).1
      have Hst1 := hide hst1; have Hbox1 := hide hbox1
      have HR1 : Hid (WiRel W1 R c gs r l P.args A 0 (l.set r 1) (W1.setCell ⟨gs, r, none⟩ (.int .i64 1))) := by
        refine hide ⟨(Only.refl (fun b => b = gs) W1).setCell (p := ⟨gs, r, none⟩) (.inl rfl) _, by rw [List.length_set]; exact Hl.out, Harr.out.set r 1, fun m hm => ?_, fun m hm => ?_, .nil, A, rfl, .nil, by simpa using hA, fun v hv => by simp [Fo.vars] at hv, fun v p hp hk hv => ?_⟩
        · rw [par_set _ _ _ _ hrl]
          by_cases e : m = r
          · rw [if_pos e]; omega
          · rw [if_neg e]; exact hm.resolve_left e
        · rw [par_set _ _ _ _ hrl] at hm
          by_cases e : m = r
          · exact .inl e
          · rw [if_neg e] at hm; exact .inr (.inl hm)
        · rw [par_set _ _ _ _ hrl] at hv
          by_cases e : v = r
          · exact .inl e
          · rw [if_neg e] at hv; exact .inr (.inl hv)
      clear hP hax hA hcA hst1 hbox1 hdec
      go_upto_region 4 with fail
      obtain ⟨W2, hW2⟩ : ∃ W2, W1.setCell ⟨gs, r, none⟩ (.int .i64 1) = W2 := ⟨_, rfl⟩
      rw [hW2] at HR1
      simp only [hW2]
      clear hW2 c1 c2
      go_wp2
      go_loopw [6] (fun vi wr => ∃ (i : Nat) (li : List Nat), vi = .int .i64 i ∧ i ≤ P.args.length ∧ Hid (WiRel W1 R c gs r l P.args A i li wr)) (fun vi _ => P.args.length - (intOf vi).toNat)
      case atStart => exact ⟨0, _, rfl, by omega, HR1⟩
      case round =>
        obtain ⟨i, li, rfl, hi, HRr⟩ := hrel
        have hst := Hst1.out.only HRr.out.only (fun b hb e => Hvg.out (by rw [hb, e])) (fun i a ha z hz e => Hag.out i a ha z hz e)
        have hwgs : w.heap.size ≠ gs := by omega
        obtain ⟨s0, t0⟩ := one_cell ((HRr.out.only.block _ hw1 hwgs).trans Hbox1.out)
        obtain ⟨P', ax', hP', hax', n0, n1, n2, n3⟩ := hst.node hrn rfl
        obtain rfl : P = P' := by have := HP.out; rw [this] at hP'; injection hP'
        obtain rfl : ax = ax' := by have := Hax.out; rw [this] at hax'; injection hax'
        have Hst := hide hst
        clear hP' hax' hst HR1
        by_cases hlt : i < P.args.length
        · obtain ⟨b1, o1, hb1, -, e1⟩ := (Hst.out.args r P ax HP.out Hax.out).1.at_ i (by simpa [cast] using hlt)
          simp only [cast, List.getElem_map] at e1
          obtain ⟨y, hy⟩ : ∃ y, P.args[i] = y := ⟨_, rfl⟩
          rw [hy] at e1
          have hyi : P.args[i]? = some y := by rw [List.getElem?_eq_getElem hlt, hy]
          have hyn : y < R.nodes.length := Hi.out.wf.arg_lt HP.out hyi
          have hygr : gr y < gr r := Hgl.out r P HP.out y (List.mem_of_getElem? hyi)
          have hbg : b1 ≠ gs := Hag.out r ax Hax.out _ hb1
          obtain ⟨Ai, Ri, hsp, hs1, hs2, hall, hon⟩ := HRr.out.parts
          rw [List.drop_eq_getElem_cons hlt, hy, show y :: P.args.drop (i + 1) = [y] ++ P.args.drop (i + 1) from rfl] at hs2
          obtain ⟨B, R', hRR, hsB, hsR⟩ := hs2.split
          have hBk : B.cnt ≤ k := by
            have : A.cnt = Ai.cnt + (B.cnt + R'.cnt) := by rw [hsp, hRR, Fo.cnt_app, Fo.cnt_app]
            omega
          have hpy : ∀ m, 0 < par li m → gr m ≤ gr y → AllM R.nodes c li m := fun m hm hgm => by
            rcases HRr.out.new m hm with h1 | h1 | h1
            · rw [h1] at hgm; omega
            · exact (Hpre.out m h1 (by omega)).mono (fun v hv => HRr.out.up v (.inr hv))
            · exact h1
          have HC := hide (fun W (hW : Below wr.heap.size wr W) => IH.out y B li W hBk hyn HRr.out.len hsB (Hst.out.later hW) (HRr.out.arr.keep (hW.block gs HRr.out.arr.lt)) hpy)
          have hlil : li.length = l.length := by rw [HRr.out.len, Hl.out]
          simp only [hlil] at HC
          rw [hb1] at n2
          have hgg : g ≠ gs := by have := Hvg.out; intro e; exact this (by rw [e]; rfl)
          have lg : g < wr.heap.size := Hst.out.lt g rfl
          have lw : w.heap.size < wr.heap.size := by have := HRr.out.only.size; omega
          have lb : b1 < wr.heap.size := Hst.out.adlt r ax Hax.out _ hb1
          have Hnext := hide (fun (w' : World) (l' : List Nat) (ho : Only (fun b => b = gs) wr w') (hl' : l'.length = R.nodes.length) (ha' : Arr w' gs l') (hm' : MkStep R.nodes c li l' B) => wirel_next HRr.out ho hl' ha' hm' hlt hy hsp hs1 hRR hsB hsR hall hon)
          clear hb1 hy hyi n0 n1 n3 hlil hsp hs1 hs2 hRR hsB hsR hall hon hpy
          go_upto_region 7 with fail
          go_region_held3 (fun w' => w'.cell? ⟨w.heap.size, 0, none⟩ = some (.slice (some ⟨g, 0, none⟩) R.nodes.length cap0) ∧ w'.cell? ⟨g, r * 4 + 2, none⟩ = some (.slice (some ⟨b1, o1, none⟩) P.args.length ax.2) ∧ w'.cell? ⟨b1, o1 + i, none⟩ = some (.int .i64 (y : Int))) (go_keep)
            (first | (go_at_call 53; refine (HC.out _ (by first | exact Below.refl _ _ | exact (Below.refl _ _).drew)).mono ?_; rintro e w' ⟨⟨ve, rfl⟩, ho', hl'⟩; have r0 := (ho'.cell (p := ⟨w.heap.size, 0, none⟩) lw hwgs).trans s0; have r1 := (ho'.cell (p := ⟨g, r * 4 + 2, none⟩) lg hgg).trans n2; have r2 := (ho'.cell (p := ⟨b1, o1 + i, none⟩) lb hbg).trans e1; have Hl' := hide hl'; clear hl'))
          have Ho' : Hid (Only (fun b => b = gs) wr w') := hide ((Only.refl _ _).drew.trans ho')
          rename_i hHeld
          clear hHeld ho' s0 t0 n2 e1 r0 r1 r2
          have HNx : Hid (∃ l', WiRel W1 R c gs r l P.args A (i + 1) l' w') := hide (by
            obtain ⟨l', h1, h2, h3⟩ := Hl'.out
            exact ⟨l', Hnext.out w' l' Ho'.out h1 h2 h3⟩)
          go_wp2
          go_roundw
          case measure => simp [intOf]; omega
          case rel =>
            obtain ⟨l', h1⟩ := HNx.out
            exact ⟨i + 1, l', by go_num, by omega, hide h1⟩
        · obtain rfl : i = P.args.length := by omega
          obtain ⟨Ai, Ri, hsp, hs1, hs2, hall, hon⟩ := HRr.out.parts
          rw [List.drop_length] at hs2
          cases hs2
          rw [Fo.app_nil] at hsp
          subst hsp
          have Hall := hide hall; have Hon := hide hon
          clear hs1 hall hon
          go_wp2
          refine bodyPost_ret (results_none rfl _ _ _) rfl ?_
          have hT : ∀ v ∈ T.vars, 0 < par li v := fun v hv => by
            rcases Hdec.out with ⟨-, -, -, h4⟩ | ⟨-, h4⟩
            · rw [h4] at hv; simp [Fo.vars] at hv
              exact HRr.out.up v (.inl (by rw [hv]; exact Hroot.out.2.2))
            · rw [h4] at hv; simp [Fo.vars] at hv; exact Hall.out v hv
          refine ⟨⟨_, rfl⟩, (Only.of_below Hbw.out _).trans HRr.out.only, li, HRr.out.len, HRr.out.arr, fun m hm => HRr.out.up m (.inr hm), fun m hm => ?_, hT, fun u p hp hk hu => ?_⟩
          · rcases HRr.out.new m hm with h1 | h1 | h1
            · subst h1
              exact .inr (fun T' hT' => by rw [hT'.unique HS.out]; exact hT)
            · exact .inl h1
            · exact .inr h1
          · rcases Hon.out u p hp hk hu with h1 | h1 | h1
            · subst h1
              rcases Hdec.out with ⟨h2, h3, h4, h5⟩ | ⟨h2, -⟩
              · exact .inr (by rw [h5]; simp [Fo.vars, Hroot.out.2.2])
              · rw [HP.out] at hp; injection hp with hp; rw [← hp] at hk; exact absurd hk h2
            · exact .inl h1
            · rcases Hdec.out with ⟨-, -, h3, -⟩ | ⟨-, h4⟩
              · rw [h3] at h1; simp [Fo.vars] at h1
              · exact .inr (by rw [h4]; simp [Fo.vars, h1])
end Go.Proofs.Ytafpbdmggnfdnaa
