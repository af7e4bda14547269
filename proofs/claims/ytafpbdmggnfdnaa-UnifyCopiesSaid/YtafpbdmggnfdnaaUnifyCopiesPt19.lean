/- Part 19 of the proof of UnifyCopies: what follows was kept as these texts: Copied, PlainNew. -/
import Derived.Test.YtafpbdmggnfdnaaUnifyCopiesPt1
import Derived.Test.YtafpbdmggnfdnaaUnifyCopiesPt2
import Derived.Test.YtafpbdmggnfdnaaUnifyCopiesPt3
import Derived.Test.YtafpbdmggnfdnaaUnifyCopiesPt4
import Derived.Test.YtafpbdmggnfdnaaUnifyCopiesPt5
import Derived.Test.YtafpbdmggnfdnaaUnifyCopiesPt6
import Derived.Test.YtafpbdmggnfdnaaUnifyCopiesPt7
import Derived.Test.YtafpbdmggnfdnaaUnifyCopiesPt8
import Derived.Test.YtafpbdmggnfdnaaUnifyCopiesPt9
import Derived.Test.YtafpbdmggnfdnaaUnifyCopiesPt10
import Derived.Test.YtafpbdmggnfdnaaUnifyCopiesPt11
import Derived.Test.YtafpbdmggnfdnaaUnifyCopiesPt12
import Derived.Test.YtafpbdmggnfdnaaUnifyCopiesPt13
import Derived.Test.YtafpbdmggnfdnaaUnifyCopiesPt14
import Derived.Test.YtafpbdmggnfdnaaUnifyCopiesPt15
import Derived.Test.YtafpbdmggnfdnaaUnifyCopiesPt16
import Derived.Test.YtafpbdmggnfdnaaUnifyCopiesPt17
import Derived.Test.YtafpbdmggnfdnaaUnifyCopiesPt18
/- The program's store: copied. -/
namespace Go.Proofs.Ytafpbdmggnfdnaa
open Go.RowKit Go.Maps
set_option linter.unusedVariables false

structure CopyPre (w : World) (Wr Rd : Nat → Prop) (g bm : Nat) (N : List Nd) (c σ : Nat → Nat) (mp : Nat → Option Nat) (nb mb : Nat) (T : Fo) (x : Nat) : Prop where
  live : LiveF Wr Rd g N c w
  map : MapOn w bm nb mb mp
  mok : MapOk N c σ mp
  nw : ¬ Wr bm
  nr : ¬ Rd bm
  lt : x < N.length
  tree : TreeOf N c [x] T
  vars : ∀ u ∈ T.vars, mp u = none → σ u = u
  few : N.length + T.cnt ≤ 1000000
  cnt : nb + T.cnt ≤ 1000000
structure CopiedAt (w : World) (Wr0 Rd0 : Nat → Prop) (g bm : Nat) (N : List Nd) (c σ : Nat → Nat) (mp : Nat → Option Nat) (nb : Nat) (T : Fo) (a : Nat) (w' : World) (Wr Rd : Nat → Prop) (N1 : List Nd) (c1 : Nat → Nat) (mp1 : Nat → Option Nat) (nb1 mb1 : Nat) : Prop where
  live : LiveF Wr Rd g N1 c1 w'
  grown : Grown N c N1 c1
  map : MapOn w' bm nb1 mb1 mp1
  mok : MapOk N1 c1 σ mp1
  more : ∀ r v, mp r = some v → mp1 r = some v
  only : Only (fun b => Wr0 b ∨ b = bm) w w'
  wok : ∀ b, Wr b → Wr0 b ∨ (w.heap.size ≤ b ∧ b < w'.heap.size)
  rok : ∀ b, Rd b → Rd0 b ∨ (w.heap.size ≤ b ∧ b < w'.heap.size)
  len : N1.length ≤ N.length + T.cnt
  cnt : nb1 ≤ nb + T.cnt
  lt : a < N1.length
  root : c1 a = a
  tree : TreeOf N1 c1 [a] (T.mapv σ)
def CopiedPost (w : World) (Wr0 Rd0 : Nat → Prop) (g bm : Nat) (N : List Nd) (c σ : Nat → Nat) (mp : Nat → Option Nat) (nb : Nat) (T : Fo) (e : Ending) (w' : World) : Prop :=
  ∃ (a : Nat) (Wr Rd : Nat → Prop) (N1 : List Nd) (c1 : Nat → Nat) (mp1 : Nat → Option Nat) (nb1 mb1 : Nat), e = .returned (.int .i64 (a : Int)) ∧ CopiedAt w Wr0 Rd0 g bm N c σ mp nb T a w' Wr Rd N1 c1 mp1 nb1 mb1
/-- At the head of a round over the arguments. -/
structure CpSt (w2 : World) (Wr0 Rd0 : Nat → Prop) (g bm : Nat) (N : List Nd) (c σ : Nat → Nat) (mp : Nat → Option Nat) (nb : Nat) (args : List Nat) (A : Fo) (i : Nat) (o : Bool) (va : Value) (wr : World) (Wr Rd : Nat → Prop) (N1 : List Nd) (c1 : Nat → Nat) (mp1 : Nat → Option Nat) (nb1 mb1 : Nat) (ys : List Nat) (Ai Ri : Fo) : Prop where
  live : LiveF Wr Rd g N1 c1 wr
  grown : Grown N c N1 c1
  map : MapOn wr bm nb1 mb1 mp1
  mok : MapOk N1 c1 σ mp1
  more : ∀ r v, mp r = some v → mp1 r = some v
  only : Only (fun b => Wr0 b ∨ b = bm) w2 wr
  wok : ∀ b, Wr b → Wr0 b ∨ (w2.heap.size ≤ b ∧ b < wr.heap.size)
  rok : ∀ b, Rd b → Rd0 b ∨ (w2.heap.size ≤ b ∧ b < wr.heap.size)
  row : wr.ownsRow w2.heap.size 3 1 va ys.length (nats ys)
  apart : ∀ b, va.ownBlock = some b → ¬ Wr b ∧ ¬ Rd b
  sp : A = Ai.app Ri
  t1 : TreeOf N c (args.take i) Ai
  t2 : TreeOf N c (args.drop i) Ri
  t3 : TreeOf N1 c1 ys (Ai.mapv σ)
  len : N1.length ≤ N.length + Ai.cnt
  cnt : nb1 ≤ nb + Ai.cnt
  ok : ∀ y ∈ ys, y < N1.length ∧ c1 y = y
  same : o = false → ys = (args.take i).map c
  pos : o = true → 0 < i
def CpRel (w2 : World) (Wr0 Rd0 : Nat → Prop) (g bm : Nat) (N : List Nd) (c σ : Nat → Nat) (mp : Nat → Option Nat) (nb : Nat) (args : List Nat) (A : Fo) (i : Nat) (o : Bool) (va : Value) (wr : World) : Prop :=
  ∃ (Wr Rd : Nat → Prop) (N1 : List Nd) (c1 : Nat → Nat) (mp1 : Nat → Option Nat) (nb1 mb1 : Nat) (ys : List Nat) (Ai Ri : Fo), CpSt w2 Wr0 Rd0 g bm N c σ mp nb args A i o va wr Wr Rd N1 c1 mp1 nb1 mb1 ys Ai Ri
section
variable {w2 wr w3 W6 : World} {Wr0 Rd0 Wr Rd Wr3 Rd3 : Nat → Prop} {g bm : Nat} {N N1 N3 : List Nd} {c c1 c3 σ : Nat → Nat} {mp mp1 mp3 : Nat → Option Nat} {nb nb1 mb1 nb3 mb3 : Nat} {args ys : List Nat} {A Ai Ri B R' : Fo} {i y a : Nat} {o o' : Bool} {va va' : Value}
theorem CpSt.ylen (h : CpSt w2 Wr0 Rd0 g bm N c σ mp nb args A i o va wr Wr Rd N1 c1 mp1 nb1 mb1 ys Ai Ri) (hi : i ≤ args.length) : ys.length = i := by
  have h1 := h.t3.len
  have h2 := h.t1.len
  rw [Fo.len_mapv] at h1
  rw [List.length_take] at h2
  omega
theorem CpSt.pre (h : CpSt w2 Wr0 Rd0 g bm N c σ mp nb args A i o va wr Wr Rd N1 c1 mp1 nb1 mb1 ys Ai Ri) (hok : ClsOk N c) (hb : bm < w2.heap.size) (hnw : ¬ Wr0 bm) (hnr : ¬ Rd0 bm) (hy : y < N.length) (hRR : Ri = B.app R') (hsB : TreeOf N c [y] B) (hv : ∀ u ∈ A.vars, mp u = none → σ u = u) (hf : N.length + A.cnt ≤ 1000000) (hc : nb + A.cnt ≤ 1000000) :
    CopyPre wr Wr Rd g bm N1 c1 σ mp1 nb1 mb1 B y := by
  have hl := h.grown.len
  have e : A.cnt = Ai.cnt + (B.cnt + R'.cnt) := by rw [h.sp, hRR, Fo.cnt_app, Fo.cnt_app]
  have h1 := h.len; have h2 := h.cnt
  refine ⟨h.live, h.map, h.mok, fun hw => ?_, fun hw => ?_, by omega, hsB.grown hok h.grown (by simpa using hy), fun u hu hm => hv u ?_ ?_, by omega, by omega⟩
  · rcases h.wok _ hw with k | k
    · exact hnw k
    · omega
  · rcases h.rok _ hw with k | k
    · exact hnr k
    · omega
  · rw [h.sp, hRR, Fo.vars_app, Fo.vars_app]; simp [hu]
  · cases hu2 : mp u with
    | none => rfl
    | some v => rw [h.more u v hu2] at hm; cases hm
theorem CpSt.next (h : CpSt w2 Wr0 Rd0 g bm N c σ mp nb args A i o va wr Wr Rd N1 c1 mp1 nb1 mb1 ys Ai Ri) (hok : ClsOk N c) (hb : bm < w2.heap.size) (hlt : i < args.length) (hy : args[i] = y) (hyn : y < N.length) (hRR : Ri = B.app R') (hsB : TreeOf N c [y] B) (hsR : TreeOf N c (args.drop (i + 1)) R')
    (k : CopiedAt wr Wr Rd g bm N1 c1 σ mp1 nb1 B a w3 Wr3 Rd3 N3 c3 mp3 nb3 mb3) {ob : Obj} (hg : (w3.alloc ob).grownBy W6 va.ownBlock) (hown : W6.ownsRow w2.heap.size 3 1 va' (ys.length + 1) (nats ys ++ [.int .i64 (a : Int)])) (hat : va'.ownBlock = va.ownBlock ∨ va'.ownBlock = some (w3.alloc ob).heap.size)
    (hall : ∀ i, i < args.length → ∀ z, args[i]? = some z → z < N.length) (ho : o' = false → o = false ∧ a = c y) : CpRel w2 Wr0 Rd0 g bm N c σ mp nb args A (i + 1) o' va' W6 := by
  have z1 := h.only.size; have z3 := k.only.size; have z6 := hg.size
  rw [World.size_alloc] at z6 hat
  have hva := h.row.lt
  have hvW : ∀ b, va.ownBlock = some b → ¬ Wr3 b ∧ ¬ Rd3 b := fun b hb2 => ⟨fun hw => by
    rcases k.wok b hw with e | e
    · exact (h.apart b hb2).1 e
    · have := (hva b hb2).2; omega, fun hw => by
    rcases k.rok b hw with e | e
    · exact (h.apart b hb2).2 e
    · have := (hva b hb2).2; omega⟩
  have ho6 : Only (fun b => va.ownBlock = some b) w3 W6 := ((Only.refl _ w3).alloc ob).grown hg (fun b hb2 => .inl hb2)
  have hbm : va.ownBlock ≠ some bm := fun e => by have := (hva bm e).1; omega
  refine ⟨Wr3, Rd3, N3, c3, mp3, nb3, mb3, ys ++ [a], Ai.app B, R', ⟨k.live.keep ho6 hvW, h.grown.trans k.grown, k.map.keep (ho6.block bm (by omega) hbm), k.mok, fun r v hr => k.more r v (h.more r v hr), ?_, ?_, ?_, ?_, ?_, ?_, ?_, hsR, ?_, ?_, ?_, ?_, ?_, fun _ => by omega⟩⟩
  · have k1 : Only (fun b => Wr0 b ∨ b = bm) w2 w3 := h.only.then_ k.only (fun b hb2 hl => by
      rcases hb2 with hb2 | hb2
      · rcases h.wok b hb2 with e | e
        · exact .inl e
        · omega
      · exact .inr hb2)
    exact k1.then_ ho6 (fun b hb2 hl => by have := (hva b hb2).1; omega)
  · intro b hw
    rcases k.wok b hw with e | e
    · rcases h.wok b e with e | e
      · exact .inl e
      · exact .inr (by omega)
    · exact .inr (by omega)
  · intro b hw
    rcases k.rok b hw with e | e
    · rcases h.rok b e with e | e
      · exact .inl e
      · exact .inr (by omega)
    · exact .inr (by omega)
  · rw [List.length_append]
    have e : nats (ys ++ [a]) = nats ys ++ [.int .i64 (a : Int)] := nats_snoc ys a
    rw [e]; exact hown
  · intro b hb2
    rcases hat with e | e
    · exact hvW b (by rw [← e]; exact hb2)
    · rw [e] at hb2; injection hb2 with hb2
      exact ⟨fun hw => by have := k.live.ltW b hw; omega, fun hw => by have := k.live.ltR b hw; omega⟩
  · rw [h.sp, hRR, Fo.app_assoc]
  · rw [List.take_succ_eq_append_getElem hlt, hy]
    exact h.t1.app hok (fun z hz => by
      obtain ⟨j, hj, rfl⟩ := List.mem_iff_getElem.1 hz
      have hj' : j < args.length := by simp at hj; omega
      exact hall j hj' _ (by simp)) (by simpa using hyn) hsB
  · rw [Fo.mapv_app]
    exact (h.t3.grown h.live.cls k.grown (fun z hz => (h.ok z hz).1)).app k.live.cls (fun z hz => Nat.lt_of_lt_of_le (h.ok z hz).1 k.grown.len) (by simpa using k.lt) k.tree
  · have := h.len; have := k.len; rw [Fo.cnt_app]; omega
  · have := h.cnt; have := k.cnt; rw [Fo.cnt_app]; omega
  · intro z hz
    rcases List.mem_append.1 hz with hz | hz
    · have := h.ok z hz
      exact ⟨Nat.lt_of_lt_of_le this.1 k.grown.len, by rw [k.grown.old z this.1]; exact this.2⟩
    · simp at hz; subst hz; exact ⟨k.lt, k.root⟩
  · intro e
    obtain ⟨e1, e2⟩ := ho e
    rw [List.take_succ_eq_append_getElem hlt, List.map_append, ← h.same e1, hy, e2]; rfl
end
set_option maxRecDepth 100000 in
set_option maxHeartbeats 8000000 in
theorem copied_any (g bm : Nat) (σ : Nat → Nat) (k : Nat) : ∀ (x : Nat) (T : Fo) (w : World) (Wr Rd : Nat → Prop) (N : List Nd) (c : Nat → Nat) (mp : Nat → Option Nat) (nb mb : Nat), T.cnt ≤ k → CopyPre w Wr Rd g bm N c σ mp nb mb T x →
    Calls Try.prog 52 #[.pointer (some ⟨g, 0, none⟩), .int .i64 (x : Int), .map (some bm)] w (CopiedPost w Wr Rd g bm N c σ mp nb T) := by
  induction k with
  | zero =>
    intro x T w Wr Rd N c mp nb mb hk hp
    obtain ⟨F, -, hS⟩ := hp.tree
    have := hS.cnt_pos
    omega
  | succ k ih =>
    intro x T w Wr Rd N c mp nb mb hk hp
    have hroot := hp.live.cls.roots x hp.lt
    obtain ⟨r, hr⟩ : ∃ r, c x = r := ⟨_, rfl⟩
    have HF := hide (livef_find hp.live x hp.lt)
    rw [hr] at HF hroot
    have hTr := hp.tree.root (by rw [hr]; exact hroot.2)
    rw [hr] at hTr
    have hrn := hroot.1
    have hnm := hp.live.many
    have hnb : nb < 1000000000 := by have := hp.cnt; omega
    have IH := hide ih; have Hp := hide hp; have Hroot := hide hroot; have Hr := hide hr; have HTr := hide hTr; have Hk := hide hk
    clear ih hp hroot hr hTr hk
    obtain ⟨i1, ki, kz0, kz1, kz2⟩ := info_parts intInfo
    have Ki := hide ki; have Kz0 := hide kz0; have Kz1 := hide kz1; have Kz2 := hide kz2
    clear ki kz0 kz1 kz2
    obtain ⟨q, hq⟩ : ∃ q, mp r = q := ⟨_, rfl⟩
    have Hq := hide hq
    clear hq
    have HMp := hide Hp.out.map
    cases q with
    | some v =>
      have Hx := hide (Hp.out.mok r v Hq.out)
      go_enter Try.func52, Try.ntmps52
      go_wp2_with fail
      refine HF.out.mono ?_
      rintro e w1 ⟨rfl, rfl⟩
      go_wp2_with (at_lookup; refine wpList_on_look rfl (.tmp 20) (.tmp 21) rfl bm nb mb mp rfl HMp.out r rfl (by omega) ?_; rw [Hq.out])
      go_ret
      obtain ⟨h1, h2, h3, h4, T0, h5, h6⟩ := Hx.out
      have e : T = T0 := HTr.out.uniq Hp.out.live.cls (by simpa using hrn) h5
      subst e
      exact ⟨v, Wr, Rd, N, c, mp, nb, mb, rfl, Hp.out.live, Grown.refl _ _, Hp.out.map, Hp.out.mok, fun _ _ h => h, Only.refl _ _, fun b hb => .inl hb, fun b hb => .inl hb, by omega, by omega, h3, h4, h6⟩
    | none =>
      have HFo := hide (livef_form Hp.out.live r hrn T HTr.out)
      go_enter Try.func52, Try.ntmps52
      go_wp2_with fail
      refine HF.out.mono ?_
      rintro e w1 ⟨rfl, rfl⟩
      go_wp2_with (at_lookup; refine wpList_on_look rfl (.tmp 20) (.tmp 21) rfl bm nb mb mp rfl HMp.out r rfl (by omega) ?_; rw [Hq.out])
      refine HFo.out.mono ?_
      rintro e w1 ⟨p, A0, cap0, rfl, hb1, hA0, hrd, hpl, hplt, hcase⟩
      have Hb1 := hide hb1; have HA0 := hide hA0; have Hrd := hide hrd; have Hplt := hide hplt
      obtain ⟨A, hA, hdec⟩ : ∃ A, TreeOf N c p.args A ∧ ((p.kind = 1 ∧ p.args = [] ∧ A = .nil ∧ T = .var r .nil) ∨ (p.kind ≠ 1 ∧ T = .con p.kind p.name A .nil)) := by
        rcases hcase with ⟨h1, h2, h3⟩ | ⟨h1, B, h2, h3⟩
        · exact ⟨.nil, by rw [h2]; exact TreeOf.nil Hp.out.live.cls, .inl ⟨h1, h2, rfl, by rw [h3, Hroot.out.2]⟩⟩
        · exact ⟨B, h2, .inr ⟨h1, h3⟩⟩
      have hAk : A.cnt ≤ k := by
        have := Hk.out
        rcases hdec with ⟨-, -, h3, -⟩ | ⟨-, h3⟩
        · rw [h3]; simp [Fo.cnt]
        · rw [h3] at this; simp only [Fo.cnt] at this; omega
      have hAT : A.cnt + 1 ≤ T.cnt := by
        rcases hdec with ⟨-, -, h3, h4⟩ | ⟨-, h3⟩
        · rw [h3, h4]; simp [Fo.cnt]
        · rw [h3]; simp only [Fo.cnt]; omega
      have Hvars : Hid (∀ u ∈ A.vars, mp u = none → σ u = u) := hide (fun u hu hm => Hp.out.vars u (by
        rcases hdec with ⟨-, -, h3, h4⟩ | ⟨-, h3⟩
        · rw [h3] at hu; simp [Fo.vars] at hu
        · rw [h3]; simp [Fo.vars, hu]) hm)
      have hfew := Hp.out.few; have hcnt := Hp.out.cnt
      have HA := hide hA; have Hdec := hide hdec
      clear hb1 hA0 hrd hplt hcase hA hdec HF HFo
      go_upto_region 6 with fail
      obtain ⟨w2, hw2⟩ : ∃ w2, w1.alloc (.cells #[.int .i64 p.kind, .string p.name, .slice A0 p.args.length cap0] 73) = w2 := ⟨_, rfl⟩
      have hb12 : Below w1.heap.size w1 w2 := by rw [← hw2]; exact (Below.refl _ _).alloc (Nat.le_refl _) _
      have hbox2 : w2.heap[w1.heap.size]? = some (.cells #[.int .i64 p.kind, .string p.name, .slice A0 p.args.length cap0] 73 (0, 0)) := by rw [← hw2]; exact heap_alloc_new w1 _
      have Hbw2 := hide (Hb1.out.trans (hb12.mono Hb1.out.size))
      have hz1 : w.heap.size ≤ w1.heap.size := Hb1.out.size
      have hz2 : w1.heap.size < w2.heap.size := (Array.getElem?_eq_some_iff.1 hbox2).1
      have hbml := Hp.out.map.lt
      have HC0 : Hid (CpRel w2 Wr Rd g bm N c σ mp nb p.args A 0 false (.slice none 0 0) w2) := hide ⟨Wr, Rd, N, c, mp, nb, mb, [], .nil, A, ⟨Hp.out.live.later Hbw2.out, Grown.refl _ _, Hp.out.map.keep (Hbw2.out.block bm hbml), Hp.out.mok, fun _ _ h => h, Only.refl _ _, fun b hb => .inl hb, fun b hb => .inl hb, World.ownsRow_nil _ _ _ _, fun b hb => by simp [Value.ownBlock] at hb, rfl, by simpa using TreeOf.nil Hp.out.live.cls, by simpa using HA.out, by simpa [Fo.mapv] using TreeOf.nil Hp.out.live.cls, by omega, by omega, fun y hy => by simp at hy, fun _ => by simp, fun h => by cases h⟩⟩
      have Hbox2 := hide hbox2
      obtain ⟨x0, x1, x2⟩ := three_cells hbox2
      simp only [hw2]
      clear hw2 hb12 hbox2
      go_wp2
      go_loopw [10, 11, 33] (fun vo va vi wr => ∃ (i : Nat) (o : Bool), vi = .int .i64 i ∧ vo = .bool o ∧ i ≤ p.args.length ∧ Hid (CpRel w2 Wr Rd g bm N c σ mp nb p.args A i o va wr)) (fun _ _ vi _ => p.args.length - (intOf vi).toNat)
      case atStart => exact ⟨0, false, rfl, rfl, by omega, HC0⟩
      case round =>
        obtain ⟨i, o, rfl, rfl, hi, HCr⟩ := hrel
        clear HC0 x0 x1 x2
        obtain ⟨Wr1, Rd1, N1, c1, mp1, nb1, mb1, ys, Ai, Ri, hst⟩ := HCr.out
        have hyl1 : ys.length ≤ i := Nat.le_of_eq (hst.ylen hi)
        have hyl2 : i ≤ ys.length := Nat.le_of_eq (hst.ylen hi).symm
        have Hst := hide hst
        clear hst HCr
        have hzr : w2.heap.size ≤ wr.heap.size := Hst.out.only.size
        by_cases hlt : i < p.args.length
        · obtain ⟨bA, oA, hA0e, hbAl, d0⟩ := HA0.out.at_ i (by simpa [cast] using hlt)
          simp only [cast, List.getElem_map] at d0
          obtain ⟨y, hy⟩ : ∃ y, p.args[i] = y := ⟨_, rfl⟩
          rw [hy] at d0
          have hyn : y < N.length := Hplt.out y (by rw [← hy]; exact List.getElem_mem _)
          have hRdA := Hrd.out _ hA0e
          have d1 : wr.cell? ⟨bA, oA + i, none⟩ = some (.int .i64 (y : Int)) := by
            refine ((Hst.out.only.cell (p := ⟨bA, oA + i, none⟩) (by simp only; omega) ?_).trans (Hbw2.out.cell (p := ⟨bA, oA + i, none⟩) hbAl)).trans d0
            rintro (h1 | h1)
            · exact Hp.out.live.apart _ hRdA h1
            · exact Hp.out.nr (by rw [← h1]; exact hRdA)
          have hs2 := Hst.out.t2
          rw [List.drop_eq_getElem_cons hlt, hy, show y :: p.args.drop (i + 1) = [y] ++ p.args.drop (i + 1) from rfl] at hs2
          obtain ⟨B, R', hRR, hsB, hsR⟩ := hs2.split
          have HPre := hide (Hst.out.pre Hp.out.live.cls (by omega) Hp.out.nw Hp.out.nr hyn hRR hsB Hvars.out (by omega) (by omega))
          have hBk : B.cnt ≤ k := by
            have : A.cnt = Ai.cnt + (B.cnt + R'.cnt) := by rw [Hst.out.sp, hRR, Fo.cnt_app, Fo.cnt_app]
            omega
          have HC := hide (IH.out y B wr Wr1 Rd1 N1 c1 mp1 nb1 mb1 hBk HPre.out)
          have Hy := hide hy; have HRR := hide hRR; have HsB := hide hsB; have HsR := hide hsR
          subst hA0e
          obtain ⟨Av, cv, hva, -, -⟩ := own_len Hst.out.row
          have Hva := hide hva
          clear hy hs2 hRR hsB hsR d0 hva hRdA
          go_wp2_with fail
          refine HC.out.mono ?_
          rintro e w3 ⟨a, Wr3, Rd3, N3, c3, mp3, nb3, mb3, rfl, hc3⟩
          have Hc3 := hide hc3
          have hz3 : wr.heap.size ≤ w3.heap.size := hc3.only.size
          have Hrow3 := hide (own_keep Hst.out.row (fun b hb => hc3.only.block b (Hst.out.row.lt b hb).2 (fun h1 => by
            rcases h1 with h1 | h1
            · exact (Hst.out.apart b hb).1 h1
            · have := (Hst.out.row.lt b hb).1; omega)))
          have HO := hide (Hrow3.out.alloc (.cells #[.int .i64 (a : Int)] 3))
          have HN4 := hide (one_new w3 (.int .i64 (a : Int)) 3)
          have HE4 : Hid (∀ u ∈ [Value.int .i64 (a : Int)], u.oneCell' = true) := hide (by simp [Value.oneCell'])
          have Hall : Hid (∀ i, i < p.args.length → ∀ z, p.args[i]? = some z → z < N.length) := hide (fun i _ z hz => Hplt.out z (List.mem_of_getElem? hz))
          clear hc3 HC d1
          cases o with
          | true =>
            go_wp2_with (at_builtin; refine wpList_append_own_at _ rfl (.tmp 49) (.tmp 51) 30 rfl w2.heap.size 3 i1 (.int .i64 0) 1 8 Try.underlying30 Ki.out Kz0.out Kz1.out Kz2.out rfl (by decide) u11 ys.length (nats ys) rfl HO.out ⟨w3.heap.size, 0, none⟩ 1 1 [.int .i64 (a : Int)] rfl rfl HN4.out HE4.out (by unfold maxLen; omega) (by omega) (by simp; omega) ?_; intro v8 W8 own8 grow8 nil8 at8; clear nil8; have Hown8 := hide own8; have Hgrow8 := hide grow8; have Hat8 := hide at8; clear own8 grow8 at8)
            have HNx := hide (Hst.out.next (o' := true) Hp.out.live.cls (by omega) hlt Hy.out hyn HRR.out HsB.out HsR.out Hc3.out Hgrow8.out Hown8.out Hat8.out Hall.out (fun h => by cases h))
            skip
            go_roundw
            case measure => simp [intOf]; omega
            case rel => exact ⟨i + 1, true, by go_num, rfl, by omega, HNx⟩
          | false =>
            have hcy : c3 y = c y := by rw [Hc3.out.grown.old y (Nat.lt_of_lt_of_le hyn Hst.out.grown.len), Hst.out.grown.old y hyn]
            have HFy := hide (livef_find Hc3.out.live y (Nat.lt_of_lt_of_le hyn (Nat.le_trans Hst.out.grown.len Hc3.out.grown.len)))
            rw [hcy] at HFy
            obtain ⟨z, hz⟩ : ∃ z, c y = z := ⟨_, rfl⟩
            rw [hz] at HFy
            have Hz := hide hz
            clear hz hcy
            go_wp2_with fail
            refine HFy.out.mono ?_
            rintro e w4 ⟨rfl, rfl⟩
            by_cases haz : a = z
            · subst haz
              have e1 : ((a : Int) != (a : Int)) = false := by simp
              go_wp2_with (at_builtin; refine wpList_append_own_at _ rfl (.tmp 49) (.tmp 51) 30 rfl w2.heap.size 3 i1 (.int .i64 0) 1 8 Try.underlying30 Ki.out Kz0.out Kz1.out Kz2.out rfl (by decide) u11 ys.length (nats ys) rfl HO.out ⟨w3.heap.size, 0, none⟩ 1 1 [.int .i64 (a : Int)] rfl rfl HN4.out HE4.out (by unfold maxLen; omega) (by omega) (by simp; omega) ?_; intro v8 W8 own8 grow8 nil8 at8; clear nil8; have Hown8 := hide own8; have Hgrow8 := hide grow8; have Hat8 := hide at8; clear own8 grow8 at8)
              have HNx := hide (Hst.out.next (o' := false) Hp.out.live.cls (by omega) hlt Hy.out hyn HRR.out HsB.out HsR.out Hc3.out Hgrow8.out Hown8.out Hat8.out Hall.out (fun _ => ⟨rfl, Hz.out.symm⟩))
              clear e1
              go_roundw
              case measure => simp [intOf]; omega
              case rel => exact ⟨i + 1, false, by go_num, rfl, by omega, HNx⟩
            · have e1 : ((a : Int) != (z : Int)) = true := by simp; omega
              go_wp2_with (at_builtin; refine wpList_append_own_at _ rfl (.tmp 49) (.tmp 51) 30 rfl w2.heap.size 3 i1 (.int .i64 0) 1 8 Try.underlying30 Ki.out Kz0.out Kz1.out Kz2.out rfl (by decide) u11 ys.length (nats ys) rfl HO.out ⟨w3.heap.size, 0, none⟩ 1 1 [.int .i64 (a : Int)] rfl rfl HN4.out HE4.out (by unfold maxLen; omega) (by omega) (by simp; omega) ?_; intro v8 W8 own8 grow8 nil8 at8; clear nil8; have Hown8 := hide own8; have Hgrow8 := hide grow8; have Hat8 := hide at8; clear own8 grow8 at8)
              have HNx := hide (Hst.out.next (o' := true) Hp.out.live.cls (by omega) hlt Hy.out hyn HRR.out HsB.out HsR.out Hc3.out Hgrow8.out Hown8.out Hat8.out Hall.out (fun h => by cases h))
              clear e1
              go_roundw
              case measure => simp [intOf]; omega
              case rel => exact ⟨i + 1, true, by go_num, rfl, by omega, HNx⟩
        · obtain rfl : i = p.args.length := by omega
          obtain ⟨b0, b1, b2⟩ := three_cells ((Hst.out.only.block w1.heap.size hz2 (fun h1 => by
            rcases h1 with h1 | h1
            · have := Hp.out.live.ltW _ h1; omega
            · omega)).trans Hbox2.out)
          have hRi : Ri = .nil ∧ A = Ai := by
            have h1 := Hst.out.t2
            rw [List.drop_of_length_le (Nat.le_refl _)] at h1
            have h2 := h1.uniq Hp.out.live.cls (by simp) (TreeOf.nil Hp.out.live.cls)
            exact ⟨h2, by rw [Hst.out.sp, h2, Fo.app_nil]⟩
          obtain ⟨rfl, rfl⟩ := hRi
          have hbm1 : ¬ Wr1 bm ∧ ¬ Rd1 bm := ⟨fun h1 => by
            rcases Hst.out.wok _ h1 with h2 | h2
            · exact Hp.out.nw h2
            · omega, fun h1 => by
            rcases Hst.out.rok _ h1 with h2 | h2
            · exact Hp.out.nr h2
            · omega⟩
          have Hbm1 := hide hbm1
          have hnb1 : nb1 < 1000000000 := by have := Hst.out.cnt; omega
          have hn1 : N1.length + 1 ≤ 1000000 := by have := Hst.out.len; omega
          have hn0 := Hst.out.grown.len
          obtain ⟨A5, c5, hv5, hN5, hl5⟩ := nats_of_own Hst.out.row
          have HN5 := hide hN5; have Hl5 := hide hl5
          subst hv5
          clear hbm1 hN5 hl5 hlt
          cases o with
          | true =>
            have hk1 : p.kind ≠ 1 ∧ T = .con p.kind p.name A .nil := by
              rcases Hdec.out with ⟨h1, h2, -, -⟩ | h1
              · have := Hst.out.pos rfl; rw [h2] at this; simp at this
              · exact h1
            have Hk1 := hide hk1
            have Hadd := hide (livef_add Hst.out.live ⟨p.kind, p.name, ys⟩ A5 c5 HN5.out (fun z hz => ⟨(Hst.out.apart z.block (by rw [hz]; rfl)).1, (Hl5.out z hz).2⟩) hn1 (by simp only; omega) (fun z hz => (Hst.out.ok z hz).1) (fun h1 => absurd h1 hk1.1))
            clear hk1
            go_wp2_with fail
            refine Hadd.out.mono ?_
            rintro e w4 ⟨rfl, hlf4, hon4⟩
            have Hlf4 := hide hlf4; have Hon4 := hide hon4
            have hz4 : wr.heap.size ≤ w4.heap.size := hon4.size
            have HMp4 := hide (Hst.out.map.keep (hon4.block bm (Hst.out.map.lt) Hbm1.out.1))
            clear hlf4 hon4 Hadd b0 b1 b2
            go_wp2_with (at_mapUpdate; refine wpList_on_set rfl (.tmp 64) (.tmp 65) (.tmp 66) rfl bm nb1 mb1 mp1 rfl HMp4.out hnb1 r N1.length rfl rfl (by omega) (by omega) ?_; intro w5 M5 hg5; have HM5 := hide M5; have Hg5 := hide hg5; clear M5 hg5)
            go_ret
            have hg : Grown N1 c1 (N1 ++ [⟨p.kind, p.name, ys⟩]) (addC N1.length c1) := Grown.add _ _ _
            have ho5 : Only (fun b => b = bm) w4 w5 := (only_of_grown Hg5.out).mono fun b _ e => by injection e with e; exact e.symm
            have hz5 := ho5.size
            have hlive5 := Hlf4.out.keep ho5 (fun b hb => by
              subst hb
              refine ⟨fun h1 => ?_, fun h1 => ?_⟩
              · rcases h1 with h1 | h1
                · exact Hbm1.out.1 h1
                · have := Hst.out.map.lt; omega
              · rcases h1 with h1 | ⟨z, hz, h1⟩
                · exact Hbm1.out.2 h1
                · have := (Hl5.out z hz).1; omega)
            have htree : TreeOf (N1 ++ [⟨p.kind, p.name, ys⟩]) (addC N1.length c1) [N1.length] (T.mapv σ) := by
              rw [Hk1.out.2]
              exact tree_new_con (p := ⟨p.kind, p.name, ys⟩) Hst.out.live.cls hlive5.cls Hk1.out.1 (fun z hz => (Hst.out.ok z hz).1) Hst.out.t3
            have hTc : T.cnt = 1 + A.cnt := by rw [Hk1.out.2]; simp only [Fo.cnt]; omega
            have hrr : addC N1.length c1 r = r := by rw [addC_old (by omega), Hst.out.grown.old r hrn]; exact Hroot.out.2
            refine ⟨N1.length, _, _, _, _, _, _, _, rfl, hlive5, Hst.out.grown.trans hg, HM5.out, ?_, ?_, ?_, ?_, ?_, ?_, ?_, ?_, addC_new, htree⟩
            · exact (Hst.out.mok.grown Hst.out.live.cls hg).put (by simp; omega) hrr (by simp) addC_new (HTr.out.grown Hp.out.live.cls (Hst.out.grown.trans hg) (by simpa using hrn)) htree
            · intro s v hs
              have e : s ≠ r := fun e => by rw [e, Hq.out] at hs; cases hs
              rw [updO_other _ _ _ _ e]; exact Hst.out.more s v hs
            · have k1 : Only (fun b => Wr b ∨ b = bm) w wr := (Only.of_below Hbw2.out _).trans Hst.out.only
              have k2 : Only (fun b => Wr b ∨ b = bm) w w4 := k1.then_ Hon4.out (fun b hb hl => by
                rcases Hst.out.wok b hb with h2 | h2
                · exact .inl h2
                · omega)
              exact k2.then_ ho5 (fun b hb hl => .inr hb)
            · intro b hb
              rcases hb with hb | hb
              · rcases Hst.out.wok b hb with h2 | h2
                · exact .inl h2
                · exact .inr (by omega)
              · exact .inr (by omega)
            · intro b hb
              rcases hb with hb | ⟨z, hz, rfl⟩
              · rcases Hst.out.rok b hb with h2 | h2
                · exact .inl h2
                · exact .inr (by omega)
              · have := Hl5.out z hz; exact .inr (by omega)
            · have := Hst.out.len; simp; omega
            · have := Hst.out.cnt; omega
            · simp
          | false =>
            have hsame : T.mapv σ = T := by
              rcases Hdec.out with ⟨-, -, -, h4⟩ | ⟨h1, h2⟩
              · have := Hp.out.vars r (by rw [h4]; simp [Fo.vars]) Hq.out
                rw [h4]; simp [Fo.mapv, this]
              · have e1 := Hst.out.same rfl
                rw [List.take_of_length_le (Nat.le_refl _)] at e1
                have e2 := (HA.out.grown Hp.out.live.cls Hst.out.grown Hplt.out).congr (js := ys) (by rw [e1]; simp) (fun j u v hu hv => by
                  rw [e1, List.getElem?_map, hu] at hv
                  simp at hv
                  have hun := Hplt.out u (List.mem_of_getElem? hu)
                  have h3 := Hp.out.live.cls.roots u hun
                  rw [← hv, Hst.out.grown.old u hun, Hst.out.grown.old _ h3.1]; exact h3.2.symm)
                have e3 := Hst.out.t3.uniq Hst.out.live.cls (fun z hz => (Hst.out.ok z hz).1) e2
                rw [h2]; simp only [Fo.mapv]; rw [e3]
            have Hsame := hide hsame
            have HMp4 := hide Hst.out.map
            clear hsame b0 b1 b2
            go_wp2_with (at_mapUpdate; refine wpList_on_set rfl (.tmp 64) (.tmp 65) (.tmp 66) rfl bm nb1 mb1 mp1 rfl HMp4.out hnb1 r r rfl rfl (by omega) (by omega) ?_; intro w5 M5 hg5; have HM5 := hide M5; have Hg5 := hide hg5; clear M5 hg5)
            go_ret
            have ho5 : Only (fun b => b = bm) wr w5 := (only_of_grown Hg5.out).mono fun b _ e => by injection e with e; exact e.symm
            have hz5 := ho5.size
            have hlive5 := Hst.out.live.keep ho5 (fun b hb => by subst hb; exact Hbm1.out)
            have hTr1 := HTr.out.grown Hp.out.live.cls Hst.out.grown (by simpa using hrn)
            have hrr : c1 r = r := by rw [Hst.out.grown.old r hrn]; exact Hroot.out.2
            refine ⟨r, _, _, _, _, _, _, _, rfl, hlive5, Hst.out.grown, HM5.out, ?_, ?_, ?_, ?_, ?_, ?_, ?_, by omega, hrr, by rw [Hsame.out]; exact hTr1⟩
            · exact Hst.out.mok.put (by omega) hrr (by omega) hrr hTr1 (by rw [Hsame.out]; exact hTr1)
            · intro s v hs
              have e : s ≠ r := fun e => by rw [e, Hq.out] at hs; cases hs
              rw [updO_other _ _ _ _ e]; exact Hst.out.more s v hs
            · exact ((Only.of_below Hbw2.out _).trans Hst.out.only).then_ ho5 (fun b hb hl => .inr hb)
            · intro b hb
              rcases Hst.out.wok b hb with h2 | h2
              · exact .inl h2
              · exact .inr (by omega)
            · intro b hb
              rcases Hst.out.rok b hb with h2 | h2
              · exact .inl h2
              · exact .inr (by omega)
            · have := Hst.out.len; omega
            · have := Hst.out.cnt; omega
end Go.Proofs.Ytafpbdmggnfdnaa

/- Plain: new variables for those that aren't kept. -/
namespace Go.Proofs.Ytafpbdmggnfdnaa
set_option linter.unusedVariables false

/-- The variables of T that are none of U's, in order. -/
def newL (T U : Fo) : List Nat := (addNew [] T.vars).filter (fun v => decide (v ∉ U.vars))
def sgOf (n0 : Nat) (nl : List Nat) : Nat → Nat := fun v => if v ∈ nl then n0 + nl.idxOf v else v
def mpOf (n0 : Nat) (nl : List Nat) : Nat → Option Nat := fun v => if v ∈ nl then some (n0 + nl.idxOf v) else none
theorem mpOf_nil (n0 : Nat) : mpOf n0 [] = fun _ => none := by funext v; simp [mpOf]
theorem mpOf_snoc (n0 : Nat) (nl : List Nat) (v : Nat) (h : v ∉ nl) : mpOf n0 (nl ++ [v]) = updO (mpOf n0 nl) v (some (n0 + nl.length)) := by
  funext u
  unfold mpOf updO
  by_cases e : u = v
  · subst e
    rw [if_pos (by simp), if_pos rfl, List.idxOf_append, if_neg h]; simp
  · rw [if_neg e]
    by_cases hu : u ∈ nl
    · rw [if_pos (by simp [hu]), List.idxOf_append, if_pos hu]
      simp only; rw [if_pos hu]
    · rw [if_neg (by simp [hu, e])]
      simp only; rw [if_neg hu]
theorem newL_nodup (T U : Fo) : (newL T U).Nodup := (addNew_nodup _ _ List.nodup_nil).sublist (List.filter_sublist)
theorem newL_mem (T U : Fo) (v : Nat) : v ∈ newL T U ↔ v ∈ T.vars ∧ v ∉ U.vars := by
  unfold newL
  rw [List.mem_filter, addNew_mem]; simp
theorem newL_len (T U : Fo) : (newL T U).length ≤ T.cnt := by
  have h1 : (newL T U).length ≤ (addNew [] T.vars).length := List.length_filter_le _ _
  have h2 := addNew_len [] T.vars
  have h3 := Fo.vars_len T
  simp at h2; omega
/-- A store with so many variables more. -/
structure NewVars (N : List Nd) (c : Nat → Nat) (k : Nat) (N1 : List Nd) (c1 : Nat → Nat) : Prop where
  grown : Grown N c N1 c1
  len : N1.length = N.length + k
  trees : ∀ i, i < k → TreeOf N1 c1 [N.length + i] (.var (N.length + i) .nil)
theorem NewVars.zero (N : List Nd) (c : Nat → Nat) : NewVars N c 0 N c := ⟨Grown.refl _ _, by omega, fun i hi => by omega⟩
theorem NewVars.step {N N1 : List Nd} {c c1 : Nat → Nat} {k : Nat} (h : NewVars N c k N1 c1) (hok : ClsOk N1 c1) (hok' : ClsOk (N1 ++ [varNd]) (addC N1.length c1)) : NewVars N c (k + 1) (N1 ++ [varNd]) (addC N1.length c1) := by
  have hl := h.len
  refine ⟨h.grown.trans (Grown.add _ _ _), by simp; omega, fun i hi => ?_⟩
  by_cases e : i < k
  · exact (h.trees i e).grown hok (Grown.add _ _ _) (by simp; omega)
  · have : N.length + i = N1.length := by omega
    rw [this]
    exact tree_new_var hok' (fun i hi => (hok.roots i hi).1)
theorem tree_var {N : List Nd} {c : Nat → Nat} (hok : ClsOk N c) {is : List Nat} {T : Fo} (hi : ∀ i ∈ is, i < N.length) (h : TreeOf N c is T) {v : Nat} (hv : v ∈ T.vars) : v < N.length ∧ c v = v ∧ TreeOf N c [v] (.var v .nil) := by
  refine ⟨(h.vars_ok hok hi v hv).1, (h.vars_ok hok hi v hv).2, ?_⟩
  obtain ⟨F, hF, hS⟩ := h
  refine ⟨F, hF, ?_⟩
  induction hS with
  | nil => simp [Fo.vars] at hv
  | @var i is T p hp hk hr ih =>
    simp only [Fo.vars, List.mem_cons] at hv
    rcases hv with e | hv
    · subst e
      have hil := hi i (by simp)
      have hc := (hok.roots i hil).2
      have := Stands.var (N := N) (c := c) (F := F) (i := c i) (p := p) (by rw [hc]; exact hp) hk .nil
      rwa [hc] at this
    · exact ih (fun j hj => hi j (by simp [hj])) hv
  | @con i is A T p hp hk ha hr iha ih =>
    simp only [Fo.vars, List.mem_append] at hv
    rcases hv with hv | hv
    · exact iha (fun j hj => by
        have h1 := (hok.wf _ p hp).1 j hj
        have h2 := (List.getElem?_eq_some_iff.1 hp).1
        omega) hv
    · exact ih (fun j hj => hi j (by simp [hj])) hv
theorem mapOk_new {N N1 : List Nd} {c c1 : Nat → Nat} {nl : List Nat} (hok : ClsOk N c) (hok1 : ClsOk N1 c1) (h : NewVars N c nl.length N1 c1) (hv : ∀ v ∈ nl, v < N.length ∧ c v = v ∧ TreeOf N c [v] (.var v .nil)) : MapOk N1 c1 (sgOf N.length nl) (mpOf N.length nl) := by
  intro r v hr
  unfold mpOf at hr
  by_cases e : r ∈ nl
  · rw [if_pos e] at hr
    injection hr with hr
    obtain ⟨h1, h2, h3⟩ := hv r e
    have hi := List.idxOf_lt_length_of_mem e
    have hl := h.len
    refine ⟨by omega, by rw [h.grown.old r h1]; exact h2, by omega, h.grown.new v (by omega) (by omega), _, h3.grown hok h.grown (by simpa using h1), ?_⟩
    have := h.trees _ hi
    rw [hr] at this
    simp only [Fo.mapv]
    have e2 : sgOf N.length nl r = v := by unfold sgOf; rw [if_pos e]; exact hr
    rw [e2]; exact this
  · rw [if_neg e] at hr; cases hr
theorem filter_take_succ {p : Nat → Bool} {l : List Nat} {j : Nat} (h : j < l.length) : (l.take (j + 1)).filter p = (l.take j).filter p ++ (if p l[j] = true then [l[j]] else []) := by
  rw [List.take_succ_eq_append_getElem h, List.filter_append]
  congr 1
  by_cases e : p l[j] = true
  · simp [e]
  · simp [e]
end Go.Proofs.Ytafpbdmggnfdnaa
