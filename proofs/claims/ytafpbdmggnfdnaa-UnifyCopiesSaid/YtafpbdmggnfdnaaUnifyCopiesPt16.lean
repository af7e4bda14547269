/- Part 16 of the proof of UnifyCopies: what follows was kept as these texts: RefTyp, RefNum. -/
import Derived.Test.YtafpbdmggnfdnaaUnifyCopiesPt1
import Derived.Test.YtafpbdmggnfdnaaUnifyCopiesPt2
import Derived.Test.YtafpbdmggnfdnaaUnifyCopiesPt3
import Derived.Test.YtafpbdmggnfdnaaUnifyCopiesPt4
import Derived.Test.YtafpbdmggnfdnaaUnifyCopiesPt5
import Derived.Test.YtafpbdmggnfdnaaUnifyCopiesPt6
import Derived.Test.YtafpbdmggnfdnaaUnifyCopiesPt7
import Derived.Test.YtafpbdmggnfdnaaUnifyCopiesPt8
import Derived.Test.YtafpbdmggnfdnaaUnifyCopiesPt9
import Derived.Test.YtafpbdmggnfdnaaUnifyCopiesPt10
import Derived.Test.YtafpbdmggnfdnaaUnifyCopiesPt11
import Derived.Test.YtafpbdmggnfdnaaUnifyCopiesPt12
import Derived.Test.YtafpbdmggnfdnaaUnifyCopiesPt13
import Derived.Test.YtafpbdmggnfdnaaUnifyCopiesPt14
import Derived.Test.YtafpbdmggnfdnaaUnifyCopiesPt15
import Derived.StillTailTactics
/- The reference's store: typ. -/
namespace Go.Proofs.Ytafpbdmggnfdnaa
open Go.RowKit Go.Maps
set_option linter.unusedVariables false

/-- At the head of a round over the arguments. -/
structure TyRel (W2 : World) (b6 : Nat) (kd : Int) (nm : ByteArray) (R : RS) (c : Nat → Nat) (args : List Nat) (A : Fo) (va : Value) (j : Nat) (wr : World) : Prop where
  only : Only (fun b => b = b6) W2 wr
  box : wr.heap[b6]? = some (.cells #[.int .i64 kd, .int .i64 0, .string nm, va] 48 (0, 0))
  parts : ∃ Aj Rj cs, A = Aj.app Rj ∧ Stands R.nodes c idF (args.take j) Aj ∧ Stands R.nodes c idF (args.drop j) Rj ∧ wr.ownsRow W2.heap.size 48 4 va j cs ∧
    FoCells wr (fun b => W2.heap.size ≤ b ∧ b < wr.heap.size ∧ va.ownBlock ≠ some b) Aj cs
theorem far_block {w' W8 : World} {o : Obj} {row : Option Nat} {b : Nat} (hg : (w'.alloc o).grownBy W8 row) (hb : b < w'.heap.size) (hne : row ≠ some b) : W8.heap[b]? = w'.heap[b]? := (hg.block b (by simp; omega) (Ne.symm hne)).trans (Below.heap_alloc _ _ _ hb)
set_option maxRecDepth 100000 in
set_option maxHeartbeats 4000000 in
theorem rtyp_any {v : Value} {ad : List (Option Addr × Nat)} {R : RS} {c d : Nat → Nat} (hi : RInv R c d) (k : Nat) : ∀ (x : Nat) (T : Fo) (w : World), T.cnt ≤ k → x < R.nodes.length → Stands R.nodes c idF [x] T → RSt w v ad R →
    Calls Try.prog 43 #[.agg #[v], .int .i64 (x : Int)] w (ToldPost w T) := by
  induction k with
  | zero =>
    intro x T w hk _ hS
    have := hS.cnt_pos
    omega
  | succ k ih =>
    intro x T w hk hx hS h
    obtain ⟨g, cap0, hv0, hcap0⟩ := own_pos h.own (by omega)
    subst hv0
    have hm := h.many
    have hroot := hi.root x hx
    have hb1 : Below w.heap.size w ((w.alloc (.cells #[.slice (some ⟨g, 0, none⟩) R.nodes.length cap0] 29)).alloc (.cells #[.int .i64 0, .int .i64 0, .string ⟨#[]⟩, .slice none 0 0] 48)) := ((Below.refl _ _).alloc (Nat.le_refl _) _).alloc (by simp) _
    obtain ⟨W0, hW0⟩ : ∃ W0, (w.alloc (.cells #[.slice (some ⟨g, 0, none⟩) R.nodes.length cap0] 29)).alloc (.cells #[.int .i64 0, .int .i64 0, .string ⟨#[]⟩, .slice none 0 0] 48) = W0 := ⟨_, rfl⟩
    have hbox : W0.heap[w.heap.size]? = some (.cells #[.slice (some ⟨g, 0, none⟩) R.nodes.length cap0] 29 (0, 0)) := by rw [← hW0, Below.heap_alloc _ _ _ (by simp)]; exact heap_alloc_new w _
    have hres : W0.heap[w.heap.size + 1]? = some (.cells #[.int .i64 0, .int .i64 0, .string ⟨#[]⟩, .slice none 0 0] 48 (0, 0)) := by
      rw [← hW0]
      have := heap_alloc_new (w.alloc (.cells #[.slice (some ⟨g, 0, none⟩) R.nodes.length cap0] 29)) (.cells #[.int .i64 0, .int .i64 0, .string ⟨#[]⟩, .slice none 0 0] 48)
      rwa [World.size_alloc] at this
    have hz0 : W0.heap.size = w.heap.size + 2 := by rw [← hW0]; simp
    rw [hW0] at hb1
    have HF := hide (rfind_any (h.later hb1) hi.forest x hx)
    have HW0 := hide hW0; have Hb1 := hide hb1; have Hbox := hide hbox; have Hres := hide hres; have Hh := hide h; have Hi := hide hi; have IH := hide ih; have Hz0 := hide hz0
    clear hW0 hb1 hbox hres h hi ih hz0
    obtain ⟨r, hr⟩ : ∃ r, c x = r := ⟨_, rfl⟩
    rw [hr] at HF hroot
    have Hr := hide hr
    have hrn := hroot.1
    have Hroot := hide hroot
    have HS := hide hS
    clear hr hroot hS
    go_enter Try.func43, Try.ntmps43
    go_wp2_with fail
    rw [HW0.out]
    refine HF.out.mono ?_
    rintro e W1 ⟨rfl, hb2⟩
    have hz0 := Hz0.out
    have hz1 : w.heap.size + 2 ≤ W1.heap.size := by have := hb2.size; omega
    have hbw : Below w.heap.size w W1 := Hb1.out.trans (hb2.mono (by omega))
    obtain ⟨s0, t0⟩ := one_cell ((hb2.block w.heap.size (by omega)).trans Hbox.out)
    obtain ⟨P, ax, hP, hax, n0, n1, n2, n3⟩ := (Hh.out.later hbw).node hrn rfl
    have hgl : g < W1.heap.size := (Hh.out.later hbw).lt g rfl
    have HP := hide hP; have Hax := hide hax; have Hb2 := hide hb2; have Hbw := hide hbw
    clear hb2 hbw hP hax hz0
    go_upto_region 3 with fail
    obtain ⟨W2, hW2⟩ : ∃ W2, W1.alloc (.cells #[.int .i64 P.kind, .string P.name, .slice ax.1 P.args.length ax.2, .int .i64 (linkOf R.up r)] 91) = W2 := ⟨_, rfl⟩
    have hb12 : Below W1.heap.size W1 W2 := by rw [← hW2]; exact (Below.refl _ _).alloc (Nat.le_refl _) _
    have hB5 : W2.heap[W1.heap.size]? = some (.cells #[.int .i64 P.kind, .string P.name, .slice ax.1 P.args.length ax.2, .int .i64 (linkOf R.up r)] 91 (0, 0)) := by rw [← hW2]; exact heap_alloc_new W1 _
    have hbw2 : Below w.heap.size w W2 := Hbw.out.trans (hb12.mono (by omega))
    have hz2 : W1.heap.size + 1 ≤ W2.heap.size := by rw [← hW2]; simp
    have hR2 : W2.heap[w.heap.size + 1]? = _ := (hb12.block _ (by omega)).trans ((Hb2.out.block _ (by have := Hz0.out; omega)).trans Hres.out)
    have hS2 : W2.heap[w.heap.size]? = _ := (hb12.block _ (by omega)).trans ((Hb2.out.block _ (by have := Hz0.out; omega)).trans Hbox.out)
    simp only [hW2]
    clear hW2 s0 t0 n0 n1 n2 n3 hb12
    obtain ⟨x0, x1, x2, -, -⟩ := four_cells hB5
    obtain ⟨r0, r1, r2, r3, rf⟩ := four_cells hR2
    have z0 := rf 0; have z1 := rf 1; have z2 := rf 2; have z3 := rf 3
    have HB5 := hide hB5; have HR2 := hide hR2; have HS2 := hide hS2; have Hbw2 := hide hbw2
    have hl5 : W1.heap.size < W2.heap.size := by omega
    have hl1 : w.heap.size + 1 < W2.heap.size := by omega
    clear hB5 hR2 hS2 hbw2 rf
    have hS := HS.out
    cases hS with
    | @var _ _ _ P' hP' hkd hrr =>
      obtain rfl : P = P' := by have := HP.out; unfold idF at hP'; rw [Hr.out, this] at hP'; injection hP'
      cases hrr
      have k16 : (P.kind == 1) = true := by simpa using hkd
      clear hP' hkd
      go_wp2
      obtain ⟨c0, c1, c2, c3⟩ := set4_cells W2 (w.heap.size + 1) (.int .i64 1) (.int .i64 (r : Int)) (.string ⟨#[]⟩) (.slice none 0 0) _ _ _ _ r0 r1 r2 r3
      have hbf : Hid (Below w.heap.size w (set4 W2 (w.heap.size + 1) (.int .i64 1) (.int .i64 (r : Int)) (.string ⟨#[]⟩) (.slice none 0 0))) := hide (set4_below Hbw2.out (by omega) _ _ _ _)
      change bodyPost Try.prog Try.f43 _ _ _ (set4 W2 (w.heap.size + 1) (.int .i64 1) (.int .i64 (r : Int)) (.string ⟨#[]⟩) (.slice none 0 0))
      clear r0 r1 r2 r3 z0 z1 z2 z3 x0 x1 x2
      generalize set4 W2 (w.heap.size + 1) (.int .i64 1) (.int .i64 (r : Int)) (.string ⟨#[]⟩) (.slice none 0 0) = W9 at *
      exact bodyPost_ret (v := .agg #[.int .i64 1, .int .i64 (r : Int), .string ⟨#[]⟩, .slice none 0 0]) (by simp [results, Try.results43, go_sem, c0, c1, c2, c3]) rfl ⟨1, (r : Int), ⟨#[]⟩, none, 0, 0, rfl, ⟨none, 0, [], by rw [Hr.out]; rfl, rfl⟩, hbf.out⟩
    | @con _ _ A _ P' hP' hkd haa hrr =>
      obtain rfl : P = P' := by have := HP.out; unfold idF at hP'; rw [Hr.out, this] at hP'; injection hP'
      cases hrr
      have k16 : (P.kind == 1) = false := by simpa using hkd
      have hPl := Hh.out.few _ _ HP.out
      have hAk : A.cnt ≤ k := by simp only [Fo.cnt] at hk; omega
      have HAl := hide haa.len
      have Ha := hide haa
      obtain ⟨i4, ki, kz0, kz1, kz2⟩ := info_parts tyInfo
      have Ki := hide ki; have Kz0 := hide kz0; have Kz1 := hide kz1; have Kz2 := hide kz2
      clear hP' hkd ki kz0 kz1 kz2 haa hk HS
      go_upto_region 6 with fail
      obtain ⟨W3, hW3⟩ : ∃ W3, W2.alloc (.cells #[.int .i64 P.kind, .int .i64 0, .string P.name, .slice none 0 0] 48) = W3 := ⟨_, rfl⟩
      have hb23 : Below W2.heap.size W2 W3 := by rw [← hW3]; exact (Below.refl _ _).alloc (Nat.le_refl _) _
      have hB6 : W3.heap[W2.heap.size]? = some (.cells #[.int .i64 P.kind, .int .i64 0, .string P.name, .slice none 0 0] 48 (0, 0)) := by rw [← hW3]; exact heap_alloc_new W2 _
      have hz3 : W2.heap.size + 1 ≤ W3.heap.size := by rw [← hW3]; simp
      have HT0 : Hid (TyRel W3 W2.heap.size P.kind P.name R c P.args A (.slice none 0 0) 0 W3) := hide ⟨Only.refl _ _, hB6, .nil, A, [], rfl, .nil, by simpa using Ha.out, World.ownsRow_nil _ _ _ _, rfl⟩
      have HB53 := hide ((hb23.block _ hl5).trans HB5.out)
      have HR23 := hide ((hb23.block _ hl1).trans HR2.out)
      have HS23 := hide ((hb23.block w.heap.size (by omega)).trans HS2.out)
      have Hbw3 := hide (Hbw2.out.trans (hb23.mono (by omega)))
      simp only [hW3]
      clear hW3 hb23 hB6 r0 r1 r2 r3 z0 z1 z2 z3 x0 x1 x2
      go_wp2
      go_loopw [7] (fun vj wr => ∃ (j : Nat) (va : Value), vj = .int .i64 j ∧ j ≤ P.args.length ∧ TyRel W3 W2.heap.size P.kind P.name R c P.args A va j wr) (fun vj _ => P.args.length - (intOf vj).toNat)
      case atStart => exact ⟨0, _, rfl, by omega, HT0.out⟩
      case round =>
        obtain ⟨j, va, rfl, hj, Rr⟩ := hrel
        clear HT0
        have hzr := Rr.only.size
        obtain ⟨y0, y1, y2, -, -⟩ := four_cells ((Rr.only.block W1.heap.size (by omega) (by omega)).trans HB53.out)
        obtain ⟨s0, t0⟩ := one_cell ((Rr.only.block w.heap.size (by omega) (by omega)).trans HS23.out)
        obtain ⟨w0, w1, w2, w3, wf⟩ := four_cells Rr.box
        have wf3 := wf 3
        by_cases hlt : j < P.args.length
        · have hst : RSt wr (.slice (some ⟨g, 0, none⟩) R.nodes.length cap0) ad R := (Hh.out.later Hbw3.out).only Rr.only (fun b hb e => by have := Hh.out.lt b hb; omega) (fun i a ha z hz e => by have := Hh.out.adlt i a ha z hz; omega)
          obtain ⟨b1, o1, hb1, hb1l, e1⟩ := (hst.args r P ax HP.out Hax.out).1.at_ j (by simpa [cast] using hlt)
          simp only [cast, List.getElem_map] at e1
          obtain ⟨y, hy⟩ : ∃ y, P.args[j] = y := ⟨_, rfl⟩
          rw [hy] at e1
          have hyn : y < R.nodes.length := Hi.out.wf.arg_lt HP.out (k := j) (by rw [List.getElem?_eq_getElem hlt, hy])
          obtain ⟨Aj, Rj, cs, hsp, hs1, hs2, hown, hfo⟩ := Rr.parts
          rw [List.drop_eq_getElem_cons hlt, hy, show y :: P.args.drop (j + 1) = [y] ++ P.args.drop (j + 1) from rfl] at hs2
          obtain ⟨B, R', hRR, hsB, hsR⟩ := hs2.split
          have hBc : B.cnt ≤ k := by
            have : A.cnt = Aj.cnt + (B.cnt + R'.cnt) := by rw [hsp, hRR, Fo.cnt_app, Fo.cnt_app]
            omega
          obtain ⟨A0, acap, hva, -, -⟩ := own_len hown
          subst hva
          have HC := hide (fun W (hW : Below wr.heap.size wr W) => IH.out y B W hBc hyn hsB (hst.later hW))
          rw [hb1] at y2
          have HRr := hide Rr
          have lb1 : b1 < wr.heap.size := hb1l
          have l0 : w.heap.size < wr.heap.size := by omega
          have l5 : W1.heap.size < wr.heap.size := by omega
          have l6 : W2.heap.size < wr.heap.size := by omega
          have hvn : ∀ b, b < W3.heap.size → (Value.slice A0 j acap).ownBlock ≠ some b := fun b hb e => by have := (hown.lt b e).1; omega
          have Hvn := hide hvn
          have Hown := hide hown; have Hfo := hide hfo; have Hsp := hide hsp; have Hs1 := hide hs1; have HsB := hide hsB; have HsR := hide hsR; have HRR := hide hRR
          have Hblw : Hid (b1 < w.heap.size) := hide (Hh.out.adlt r ax Hax.out _ hb1)
          have Hbl1 : Hid (b1 < W3.heap.size) := hide (by
            have := (Hh.out.later Hbw3.out).adlt r ax Hax.out
            obtain ⟨b', o', hb', hl', -⟩ := ((Hh.out.later Hbw3.out).args r P ax HP.out Hax.out).1.at_ j (by simpa [cast] using hlt)
            rw [hb1] at hb'; injection hb' with hb'; injection hb' with hb' _; omega)
          have Htake : Hid (P.args.take (j + 1) = P.args.take j ++ [y]) := hide (by rw [List.take_succ_eq_append_getElem hlt, hy])
          clear hb1 Rr hown hfo hsp hs1 hs2 hsB hsR hRR hvn y0 y1 w0 w1 w2 wf hst hy
          have wf4 := wf3
          have m0 : w.heap.size < W3.heap.size := by omega
          have m5 : W1.heap.size < W3.heap.size := by omega
          have m6 : W2.heap.size < W3.heap.size := by omega
          have ne0 : W2.heap.size ≠ w.heap.size := by omega
          have ne1 : W2.heap.size ≠ W1.heap.size := by omega
          have ne2 : W2.heap.size ≠ b1 := by have := Hblw.out; omega
          go_upto_region 9 with fail
          refine wp_region_noPanic ?_
          refine wp_region_held_drew (S := fun w' => w'.cell? ⟨w.heap.size, 0, none⟩ = some (.slice (some ⟨g, 0, none⟩) R.nodes.length cap0) ∧ w'.cell? ⟨W1.heap.size, 2, none⟩ = some (.slice (some ⟨b1, o1, none⟩) P.args.length ax.2) ∧ w'.cell? ⟨b1, o1 + j, none⟩ = some (.int .i64 (y : Int))) (by kernel_rfl) ⟨s0, y2, e1⟩ (fun hHeld => ?_)
          refine wpAnyH_take (i := 0) (oi := _) (v := ?_) rfl (by kernel_rfl) (by kernel_rfl) (by kernel_rfl) (fun _ _ _ h => h) (Or.inl ⟨by rfl, ?_⟩) hHeld ?_
          rotate_left
          · intro w' hSw
            obtain ⟨hS0, hS1, hS2⟩ := hSw
            go_simp
            try (with_reducible rfl)
          try simp only [List.getElem_toArray, List.getElem_cons_zero, List.getElem_cons_succ, Act.put, List.setIfInBounds_toArray, List.set_cons_zero, List.set_cons_succ]
          refine wpAnyH_take (i := 2) (oi := _) (v := ?_) rfl (by kernel_rfl) (by kernel_rfl) (by kernel_rfl) (fun _ _ _ h => h) (Or.inl ⟨by rfl, ?_⟩) hHeld ?_
          rotate_left
          · intro w' hSw
            obtain ⟨hS0, hS1, hS2⟩ := hSw
            go_simp
            try (with_reducible rfl)
          try simp only [List.getElem_toArray, List.getElem_cons_zero, List.getElem_cons_succ, Act.put, List.setIfInBounds_toArray, List.set_cons_zero, List.set_cons_succ]
          refine wpAnyH_take (i := 3) (oi := _) (v := ?_) rfl (by kernel_rfl) (by kernel_rfl) (by kernel_rfl) (fun _ _ _ h => h) (Or.inl ⟨by rfl, ?_⟩) hHeld ?_
          rotate_left
          · intro w' hSw
            obtain ⟨hS0, hS1, hS2⟩ := hSw
            go_simp
            try (with_reducible rfl)
          try simp only [List.getElem_toArray, List.getElem_cons_zero, List.getElem_cons_succ, Act.put, List.setIfInBounds_toArray, List.set_cons_zero, List.set_cons_succ]
          refine wpAnyH_take (i := 4) (oi := _) (v := ?_) rfl (by kernel_rfl) (by kernel_rfl) (by kernel_rfl) (fun _ _ _ h => h) (Or.inl ⟨by rfl, ?_⟩) hHeld ?_
          rotate_left
          · intro w' hSw
            obtain ⟨hS0, hS1, hS2⟩ := hSw
            go_simp
            try (with_reducible rfl)
          try simp only [List.getElem_toArray, List.getElem_cons_zero, List.getElem_cons_succ, Act.put, List.setIfInBounds_toArray, List.set_cons_zero, List.set_cons_succ]
          refine wpAnyH_take (i := 5) (oi := _) (v := ?_) rfl (by kernel_rfl) (by kernel_rfl) (by kernel_rfl) (fun _ _ _ h => h) (Or.inl ⟨by rfl, ?_⟩) hHeld ?_
          rotate_left
          · intro w' hSw
            obtain ⟨hS0, hS1, hS2⟩ := hSw
            go_simp
            try (with_reducible rfl)
          try simp only [List.getElem_toArray, List.getElem_cons_zero, List.getElem_cons_succ, Act.put, List.setIfInBounds_toArray, List.set_cons_zero, List.set_cons_succ]
          refine wpAnyH_take (i := 6) (oi := _) (v := ?_) rfl (by kernel_rfl) (by kernel_rfl) (by kernel_rfl) (fun _ _ _ h => h) (Or.inl ⟨by rfl, ?_⟩) hHeld ?_
          rotate_left
          · intro w' hSw
            obtain ⟨hS0, hS1, hS2⟩ := hSw
            go_simp
            try (with_reducible rfl)
          try simp only [List.getElem_toArray, List.getElem_cons_zero, List.getElem_cons_succ, Act.put, List.setIfInBounds_toArray, List.set_cons_zero, List.set_cons_succ]
          refine wpAnyH_take (i := 7) (oi := _) (v := ?_) rfl (by kernel_rfl) (by kernel_rfl) (by kernel_rfl) (fun _ _ _ h => h) (Or.inl ⟨by rfl, ?_⟩) hHeld ?_
          rotate_left
          · intro w' hSw
            obtain ⟨hS0, hS1, hS2⟩ := hSw
            go_simp
            try (with_reducible rfl)
          try simp only [List.getElem_toArray, List.getElem_cons_zero, List.getElem_cons_succ, Act.put, List.setIfInBounds_toArray, List.set_cons_zero, List.set_cons_succ]
          refine wpAnyH_ready (rs := [1, 8]) (by kernel_rfl) (by simp) ?_
          refine AllReadyH.cons (o := _) rfl (fun K hK => ?_) (AllReadyH.cons (o := _) rfl (fun K hK => ?_) AllReadyH.nil)
          · go_simp
            refine hK.out _ _ hHeld (fun hHeld => ?_)
            clear hK K
            try simp only [List.getElem_toArray, List.getElem_cons_zero, List.getElem_cons_succ, Act.put, List.setIfInBounds_toArray, List.set_cons_zero, List.set_cons_succ]
            refine wpAnyH_ready (rs := [8]) (by kernel_rfl) (by simp) ?_
            refine AllReadyH.cons (o := _) rfl (fun K hK => ?_) AllReadyH.nil
            go_simp
            refine (HC.out _ (Below.refl _ _).drew).mono ?_
            rintro e w' ⟨kd, nu, sn, A5, n5, c5, rfl, hfo3, hb3⟩
            have Hb3 := hide ((Below.refl wr.heap.size wr).drew.trans hb3)
            have Hfo3 := hide hfo3
            have q0 := (hb3.cell (p := ⟨w.heap.size, 0, none⟩) l0).trans s0
            have q1 := (hb3.cell (p := ⟨W1.heap.size, 2, none⟩) l5).trans y2
            have q2 := (hb3.cell (p := ⟨b1, o1 + j, none⟩) lb1).trans e1
            have q3 := (hb3.cell (p := ⟨W2.heap.size, 3, none⟩) l6).trans w3
            have q4 := (hb3.frozen (p := ⟨W2.heap.size, 3, none⟩) l6).trans wf4
            have hz9 : wr.heap.size ≤ w'.heap.size := hb3.size
            clear hfo3 hb3
            have O4 := hide ((own_keep Hown.out (fun b hb => Hb3.out.block b (Hown.out.lt b hb).2)).alloc (.cells #[.int .i64 kd, .int .i64 nu, .string sn, .slice A5 n5 c5] 48))
            have N4 := hide (four_new w' (.int .i64 kd) (.int .i64 nu) (.string sn) (.slice A5 n5 c5) 48)
            have E4 : Hid (∀ u ∈ [Value.int .i64 kd, .int .i64 nu, .string sn, .slice A5 n5 c5], u.oneCell' = true) := hide (by simp [Value.oneCell'])
            clear hHeld
            go_wp2_with fail
            refine hK.out _ _ ⟨q0, q1, q2⟩ (fun hHeld => ?_)
            clear hK K
            try simp only [List.getElem_toArray, List.getElem_cons_zero, List.getElem_cons_succ, Act.put, List.setIfInBounds_toArray, List.set_cons_zero, List.set_cons_succ]
            refine wpAnyH_ready (rs := [9]) (by kernel_rfl) (by simp) ?_
            refine AllReadyH.cons (o := _) rfl (fun K hK => ?_) AllReadyH.nil
            go_simp
            have p0 := (World.cell?_alloc_lt w' (.cells #[.int .i64 kd, .int .i64 nu, .string sn, .slice A5 n5 c5] 48) ⟨w.heap.size, 0, none⟩ (Nat.lt_of_lt_of_le l0 hz9)).trans q0
            have p1 := (World.cell?_alloc_lt w' (.cells #[.int .i64 kd, .int .i64 nu, .string sn, .slice A5 n5 c5] 48) ⟨W1.heap.size, 2, none⟩ (Nat.lt_of_lt_of_le l5 hz9)).trans q1
            have p2 := (World.cell?_alloc_lt w' (.cells #[.int .i64 kd, .int .i64 nu, .string sn, .slice A5 n5 c5] 48) ⟨b1, o1 + j, none⟩ (Nat.lt_of_lt_of_le lb1 hz9)).trans q2
            have p3 := (World.cell?_alloc_lt w' (.cells #[.int .i64 kd, .int .i64 nu, .string sn, .slice A5 n5 c5] 48) ⟨W2.heap.size, 3, none⟩ (Nat.lt_of_lt_of_le l6 hz9)).trans q3
            clear hHeld
            refine hK.out _ _ ⟨p0, p1, p2⟩ (fun hHeld => ?_)
            clear hK K
            try simp only [List.getElem_toArray, List.getElem_cons_zero, List.getElem_cons_succ, Act.put, List.setIfInBounds_toArray, List.set_cons_zero, List.set_cons_succ]
            refine wpAnyH_ready (rs := [10]) (by kernel_rfl) (by simp) ?_
            refine AllReadyH.cons (o := _) rfl (fun K hK => ?_) AllReadyH.nil
            refine step_append_lies _ (by rfl) (.tmp 34) (.tmp 42) 34 (by rfl) W3.heap.size 48 i4 (.agg #[.int .i64 0, .int .i64 0, .string ByteArray.empty, .slice none 0 0]) 4 56 Try.underlying34 Ki.out Kz0.out Kz1.out Kz2.out rfl (by decide) (.slice A0 j acap) j cs (by rfl) O4.out ⟨w'.heap.size, 0, none⟩ 1 1 [.int .i64 kd, .int .i64 nu, .string sn, .slice A5 n5 c5] (by rfl) (by rfl) N4.out E4.out (by decide) (by simp only [maxLen]; omega) (by omega) (by simp; omega) (w'.heap.size + 1) (by simp) ?_
            intro g8 cap8 W8 own8 grow8 at8 lt8
            have Hown8 := hide own8
            have Hgrow8 := hide grow8
            have Hat8 := hide at8
            clear own8 grow8 at8 hHeld
            have u0 := (World.cell?_of_block (a := ⟨w.heap.size, 0, none⟩) (far_block Hgrow8.out (Nat.lt_of_lt_of_le l0 hz9) (Hvn.out _ m0))).trans q0
            have u1 := (World.cell?_of_block (a := ⟨W1.heap.size, 2, none⟩) (far_block Hgrow8.out (Nat.lt_of_lt_of_le l5 hz9) (Hvn.out _ m5))).trans q1
            have u2 := (World.cell?_of_block (a := ⟨b1, o1 + j, none⟩) (far_block Hgrow8.out (Nat.lt_of_lt_of_le lb1 hz9) (Hvn.out _ Hbl1.out))).trans q2
            have u3 := (World.cell?_of_block (a := ⟨W2.heap.size, 3, none⟩) (far_block Hgrow8.out (Nat.lt_of_lt_of_le l6 hz9) (Hvn.out _ m6))).trans q3
            have u5 := (World.frozen?_of_block (a := ⟨W2.heap.size, 3, none⟩) (far_block Hgrow8.out (Nat.lt_of_lt_of_le l6 hz9) (Hvn.out _ m6))).trans q4
            refine hK.out _ _ ⟨u0, u1, u2⟩ (fun hHeld => ?_)
            clear hK K
            try simp only [List.getElem_toArray, List.getElem_cons_zero, List.getElem_cons_succ, Act.put, List.setIfInBounds_toArray, List.set_cons_zero, List.set_cons_succ]
            refine wpAnyH_take (i := 11) (oi := _) (v := ?_) rfl (by kernel_rfl) (by kernel_rfl) (by kernel_rfl) (fun _ _ _ h => h) (Or.inl ⟨by rfl, ?_⟩) hHeld ?_
            rotate_left
            · intro w' hSw
              obtain ⟨hS0, hS1, hS2⟩ := hSw
              go_simp
              try (with_reducible rfl)
            try simp only [List.getElem_toArray, List.getElem_cons_zero, List.getElem_cons_succ, Act.put, List.setIfInBounds_toArray, List.set_cons_zero, List.set_cons_succ]
            refine wpAnyH_ready (rs := [12]) (by kernel_rfl) (by simp) ?_
            refine AllReadyH.cons (o := _) rfl (fun K hK => ?_) AllReadyH.nil
            go_simp
            have v0 := (World.cell?_setCell_far W8 ⟨W2.heap.size, 3, none⟩ ⟨w.heap.size, 0, none⟩ (.slice (some ⟨g8, 0, none⟩) (j + 1) cap8) ne0).trans u0
            have v1 := (World.cell?_setCell_far W8 ⟨W2.heap.size, 3, none⟩ ⟨W1.heap.size, 2, none⟩ (.slice (some ⟨g8, 0, none⟩) (j + 1) cap8) ne1).trans u1
            have v2 := (World.cell?_setCell_far W8 ⟨W2.heap.size, 3, none⟩ ⟨b1, o1 + j, none⟩ (.slice (some ⟨g8, 0, none⟩) (j + 1) cap8) ne2).trans u2
            clear hHeld
            refine hK.out _ _ ⟨v0, v1, v2⟩ (fun hHeld => ?_)
            clear hK K
            try simp only [List.getElem_toArray, List.getElem_cons_zero, List.getElem_cons_succ, Act.put, List.setIfInBounds_toArray, List.set_cons_zero, List.set_cons_succ]
            refine wpAnyH_done (by kernel_rfl) ?_ _
            refine NoPanic.normal ?_
            clear v0 v1 v2 u0 u1 u2 u3 u5 q0 q1 q2 q3 q4 hHeld
            have hz8 := Hgrow8.out.size
            rw [World.size_alloc] at hz8
            go_wp2
            go_roundw
            case measure => simp [intOf]; omega
            case rel =>
              have hvn8 : ∀ b, b < W3.heap.size → (Value.slice A0 j acap).ownBlock ≠ some b := Hvn.out
              have hon : Only (fun b => b = W2.heap.size ∨ (Value.slice A0 j acap).ownBlock = some b) wr (W8.setCell ⟨W2.heap.size, 3, none⟩ (.slice (some ⟨g8, 0, none⟩) (j + 1) cap8)) :=
                (((Only.of_below Hb3.out _).alloc _).grown Hgrow8.out (fun b hb => .inl (.inr hb))).setCell (.inl (.inl rfl)) _
              have hblk : ∀ b, b ≠ W2.heap.size → (W8.setCell ⟨W2.heap.size, 3, none⟩ (.slice (some ⟨g8, 0, none⟩) (j + 1) cap8)).heap[b]? = W8.heap[b]? := fun b hb => Below.heap_setCell _ _ _ b hb
              have hg8 : g8 ≠ W2.heap.size := by
                rcases Hat8.out with e | e
                · intro e2; subst e2; exact hvn8 _ m6 e
                · omega
              have hbox8 : W8.heap[W2.heap.size]? = some (.cells #[.int .i64 P.kind, .int .i64 0, .string P.name, .slice A0 j acap] 48 (0, 0)) := (far_block Hgrow8.out (Nat.lt_of_lt_of_le l6 hz9) (hvn8 _ m6)).trans ((Hb3.out.block _ l6).trans HRr.out.box)
              refine ⟨j + 1, _, by go_num, by omega, HRr.out.only.then_ hon (fun b hb hl => ?_), blk_set hbox8 3 _, Aj.app B, R', cs ++ [.int .i64 kd, .int .i64 nu, .string sn, .slice A5 n5 c5], ?_, ?_, HsR.out, own_keep Hown8.out (fun b hb => hblk b (by simp [Value.ownBlock] at hb; omega)), ?_⟩
              · rcases hb with hb | hb
                · exact hb
                · exact absurd hb (hvn8 b hl)
              · rw [Hsp.out, HRR.out, Fo.app_assoc]
              · rw [Htake.out]; exact Hs1.out.app HsB.out
              · have hold : ∀ b, (Value.slice A0 j acap).ownBlock = some b → b < wr.heap.size := fun b hb => (Hown.out.lt b hb).2
                have hcell : ∀ p : Addr, p.block < w'.heap.size → p.block ≠ W2.heap.size → (Value.slice A0 j acap).ownBlock ≠ some p.block → (W8.setCell ⟨W2.heap.size, 3, none⟩ (.slice (some ⟨g8, 0, none⟩) (j + 1) cap8)).cell? p = w'.cell? p := fun p hp h2 hne => World.cell?_of_block ((hblk _ h2).trans (far_block Hgrow8.out hp hne))
                have hv6 : ∀ b, b < w'.heap.size → (Value.slice A0 j acap).ownBlock ≠ some b → (Value.slice (some ⟨g8, 0, none⟩) (j + 1) cap8).ownBlock ≠ some b := by
                  intro b hb hne e1
                  have : g8 = b := by simpa [Value.ownBlock] using e1
                  rcases Hat8.out with e2 | e2
                  · rw [this] at e2; exact hne e2
                  · omega
                have hz8' : (W8.setCell ⟨W2.heap.size, 3, none⟩ (.slice (some ⟨g8, 0, none⟩) (j + 1) cap8)).heap.size = W8.heap.size := by simp [World.setCell]
                refine FoCells.app _ (FoCells.keep _ Hfo3.out ?_ ?_) (FoCells.keep _ Hfo.out ?_ ?_)
                · rintro b ⟨hb1, hb2⟩
                  have hb1' : wr.heap.size ≤ b := hb1
                  exact ⟨by omega, by omega, hv6 b hb2 (fun e1 => by have := hold b e1; omega)⟩
                · rintro p ⟨hp1, hp2⟩
                  have hp1' : wr.heap.size ≤ p.block := hp1
                  exact hcell p hp2 (by omega) (fun e1 => by have := hold _ e1; omega)
                · rintro b ⟨hb1, hb2, hb3⟩
                  exact ⟨hb1, by omega, hv6 b (by omega) hb3⟩
                · rintro p ⟨hp1, hp2, hp3⟩
                  exact (hcell p (by omega) (by omega) hp3).trans (Hb3.out.cell hp2)
          · go_simp
            refine (HC.out _ (Below.refl _ _).drew).mono ?_
            rintro e w' ⟨kd, nu, sn, A5, n5, c5, rfl, hfo3, hb3⟩
            have Hb3 := hide ((Below.refl wr.heap.size wr).drew.trans hb3)
            have Hfo3 := hide hfo3
            have q0 := (hb3.cell (p := ⟨w.heap.size, 0, none⟩) l0).trans s0
            have q1 := (hb3.cell (p := ⟨W1.heap.size, 2, none⟩) l5).trans y2
            have q2 := (hb3.cell (p := ⟨b1, o1 + j, none⟩) lb1).trans e1
            have q3 := (hb3.cell (p := ⟨W2.heap.size, 3, none⟩) l6).trans w3
            have q4 := (hb3.frozen (p := ⟨W2.heap.size, 3, none⟩) l6).trans wf4
            have hz9 : wr.heap.size ≤ w'.heap.size := hb3.size
            clear hfo3 hb3
            have O4 := hide ((own_keep Hown.out (fun b hb => Hb3.out.block b (Hown.out.lt b hb).2)).alloc (.cells #[.int .i64 kd, .int .i64 nu, .string sn, .slice A5 n5 c5] 48))
            have N4 := hide (four_new w' (.int .i64 kd) (.int .i64 nu) (.string sn) (.slice A5 n5 c5) 48)
            have E4 : Hid (∀ u ∈ [Value.int .i64 kd, .int .i64 nu, .string sn, .slice A5 n5 c5], u.oneCell' = true) := hide (by simp [Value.oneCell'])
            clear hHeld
            go_wp2_with fail
            refine hK.out _ _ ⟨q0, q1, q2⟩ (fun hHeld => ?_)
            clear hK K
            try simp only [List.getElem_toArray, List.getElem_cons_zero, List.getElem_cons_succ, Act.put, List.setIfInBounds_toArray, List.set_cons_zero, List.set_cons_succ]
            refine wpAnyH_ready (rs := [1, 9]) (by kernel_rfl) (by simp) ?_
            refine AllReadyH.cons (o := _) rfl (fun K hK => ?_) (AllReadyH.cons (o := _) rfl (fun K hK => ?_) AllReadyH.nil)
            · go_simp
              refine hK.out _ _ hHeld (fun hHeld => ?_)
              clear hK K
              try simp only [List.getElem_toArray, List.getElem_cons_zero, List.getElem_cons_succ, Act.put, List.setIfInBounds_toArray, List.set_cons_zero, List.set_cons_succ]
              refine wpAnyH_ready (rs := [9]) (by kernel_rfl) (by simp) ?_
              refine AllReadyH.cons (o := _) rfl (fun K hK => ?_) AllReadyH.nil
              go_simp
              have p0 := (World.cell?_alloc_lt w' (.cells #[.int .i64 kd, .int .i64 nu, .string sn, .slice A5 n5 c5] 48) ⟨w.heap.size, 0, none⟩ (Nat.lt_of_lt_of_le l0 hz9)).trans q0
              have p1 := (World.cell?_alloc_lt w' (.cells #[.int .i64 kd, .int .i64 nu, .string sn, .slice A5 n5 c5] 48) ⟨W1.heap.size, 2, none⟩ (Nat.lt_of_lt_of_le l5 hz9)).trans q1
              have p2 := (World.cell?_alloc_lt w' (.cells #[.int .i64 kd, .int .i64 nu, .string sn, .slice A5 n5 c5] 48) ⟨b1, o1 + j, none⟩ (Nat.lt_of_lt_of_le lb1 hz9)).trans q2
              have p3 := (World.cell?_alloc_lt w' (.cells #[.int .i64 kd, .int .i64 nu, .string sn, .slice A5 n5 c5] 48) ⟨W2.heap.size, 3, none⟩ (Nat.lt_of_lt_of_le l6 hz9)).trans q3
              clear hHeld
              refine hK.out _ _ ⟨p0, p1, p2⟩ (fun hHeld => ?_)
              clear hK K
              try simp only [List.getElem_toArray, List.getElem_cons_zero, List.getElem_cons_succ, Act.put, List.setIfInBounds_toArray, List.set_cons_zero, List.set_cons_succ]
              refine wpAnyH_ready (rs := [10]) (by kernel_rfl) (by simp) ?_
              refine AllReadyH.cons (o := _) rfl (fun K hK => ?_) AllReadyH.nil
              refine step_append_lies _ (by rfl) (.tmp 34) (.tmp 42) 34 (by rfl) W3.heap.size 48 i4 (.agg #[.int .i64 0, .int .i64 0, .string ByteArray.empty, .slice none 0 0]) 4 56 Try.underlying34 Ki.out Kz0.out Kz1.out Kz2.out rfl (by decide) (.slice A0 j acap) j cs (by rfl) O4.out ⟨w'.heap.size, 0, none⟩ 1 1 [.int .i64 kd, .int .i64 nu, .string sn, .slice A5 n5 c5] (by rfl) (by rfl) N4.out E4.out (by decide) (by simp only [maxLen]; omega) (by omega) (by simp; omega) (w'.heap.size + 1) (by simp) ?_
              intro g8 cap8 W8 own8 grow8 at8 lt8
              have Hown8 := hide own8
              have Hgrow8 := hide grow8
              have Hat8 := hide at8
              clear own8 grow8 at8 hHeld
              have u0 := (World.cell?_of_block (a := ⟨w.heap.size, 0, none⟩) (far_block Hgrow8.out (Nat.lt_of_lt_of_le l0 hz9) (Hvn.out _ m0))).trans q0
              have u1 := (World.cell?_of_block (a := ⟨W1.heap.size, 2, none⟩) (far_block Hgrow8.out (Nat.lt_of_lt_of_le l5 hz9) (Hvn.out _ m5))).trans q1
              have u2 := (World.cell?_of_block (a := ⟨b1, o1 + j, none⟩) (far_block Hgrow8.out (Nat.lt_of_lt_of_le lb1 hz9) (Hvn.out _ Hbl1.out))).trans q2
              have u3 := (World.cell?_of_block (a := ⟨W2.heap.size, 3, none⟩) (far_block Hgrow8.out (Nat.lt_of_lt_of_le l6 hz9) (Hvn.out _ m6))).trans q3
              have u5 := (World.frozen?_of_block (a := ⟨W2.heap.size, 3, none⟩) (far_block Hgrow8.out (Nat.lt_of_lt_of_le l6 hz9) (Hvn.out _ m6))).trans q4
              refine hK.out _ _ ⟨u0, u1, u2⟩ (fun hHeld => ?_)
              clear hK K
              try simp only [List.getElem_toArray, List.getElem_cons_zero, List.getElem_cons_succ, Act.put, List.setIfInBounds_toArray, List.set_cons_zero, List.set_cons_succ]
              refine wpAnyH_take (i := 11) (oi := _) (v := ?_) rfl (by kernel_rfl) (by kernel_rfl) (by kernel_rfl) (fun _ _ _ h => h) (Or.inl ⟨by rfl, ?_⟩) hHeld ?_
              rotate_left
              · intro w' hSw
                obtain ⟨hS0, hS1, hS2⟩ := hSw
                go_simp
                try (with_reducible rfl)
              try simp only [List.getElem_toArray, List.getElem_cons_zero, List.getElem_cons_succ, Act.put, List.setIfInBounds_toArray, List.set_cons_zero, List.set_cons_succ]
              refine wpAnyH_ready (rs := [12]) (by kernel_rfl) (by simp) ?_
              refine AllReadyH.cons (o := _) rfl (fun K hK => ?_) AllReadyH.nil
              go_simp
              have v0 := (World.cell?_setCell_far W8 ⟨W2.heap.size, 3, none⟩ ⟨w.heap.size, 0, none⟩ (.slice (some ⟨g8, 0, none⟩) (j + 1) cap8) ne0).trans u0
              have v1 := (World.cell?_setCell_far W8 ⟨W2.heap.size, 3, none⟩ ⟨W1.heap.size, 2, none⟩ (.slice (some ⟨g8, 0, none⟩) (j + 1) cap8) ne1).trans u1
              have v2 := (World.cell?_setCell_far W8 ⟨W2.heap.size, 3, none⟩ ⟨b1, o1 + j, none⟩ (.slice (some ⟨g8, 0, none⟩) (j + 1) cap8) ne2).trans u2
              clear hHeld
              refine hK.out _ _ ⟨v0, v1, v2⟩ (fun hHeld => ?_)
              clear hK K
              try simp only [List.getElem_toArray, List.getElem_cons_zero, List.getElem_cons_succ, Act.put, List.setIfInBounds_toArray, List.set_cons_zero, List.set_cons_succ]
              refine wpAnyH_done (by kernel_rfl) ?_ _
              refine NoPanic.normal ?_
              clear v0 v1 v2 u0 u1 u2 u3 u5 q0 q1 q2 q3 q4 hHeld
              have hz8 := Hgrow8.out.size
              rw [World.size_alloc] at hz8
              go_wp2
              go_roundw
              case measure => simp [intOf]; omega
              case rel =>
                have hvn8 : ∀ b, b < W3.heap.size → (Value.slice A0 j acap).ownBlock ≠ some b := Hvn.out
                have hon : Only (fun b => b = W2.heap.size ∨ (Value.slice A0 j acap).ownBlock = some b) wr (W8.setCell ⟨W2.heap.size, 3, none⟩ (.slice (some ⟨g8, 0, none⟩) (j + 1) cap8)) :=
                  (((Only.of_below Hb3.out _).alloc _).grown Hgrow8.out (fun b hb => .inl (.inr hb))).setCell (.inl (.inl rfl)) _
                have hblk : ∀ b, b ≠ W2.heap.size → (W8.setCell ⟨W2.heap.size, 3, none⟩ (.slice (some ⟨g8, 0, none⟩) (j + 1) cap8)).heap[b]? = W8.heap[b]? := fun b hb => Below.heap_setCell _ _ _ b hb
                have hg8 : g8 ≠ W2.heap.size := by
                  rcases Hat8.out with e | e
                  · intro e2; subst e2; exact hvn8 _ m6 e
                  · omega
                have hbox8 : W8.heap[W2.heap.size]? = some (.cells #[.int .i64 P.kind, .int .i64 0, .string P.name, .slice A0 j acap] 48 (0, 0)) := (far_block Hgrow8.out (Nat.lt_of_lt_of_le l6 hz9) (hvn8 _ m6)).trans ((Hb3.out.block _ l6).trans HRr.out.box)
                refine ⟨j + 1, _, by go_num, by omega, HRr.out.only.then_ hon (fun b hb hl => ?_), blk_set hbox8 3 _, Aj.app B, R', cs ++ [.int .i64 kd, .int .i64 nu, .string sn, .slice A5 n5 c5], ?_, ?_, HsR.out, own_keep Hown8.out (fun b hb => hblk b (by simp [Value.ownBlock] at hb; omega)), ?_⟩
                · rcases hb with hb | hb
                  · exact hb
                  · exact absurd hb (hvn8 b hl)
                · rw [Hsp.out, HRR.out, Fo.app_assoc]
                · rw [Htake.out]; exact Hs1.out.app HsB.out
                · have hold : ∀ b, (Value.slice A0 j acap).ownBlock = some b → b < wr.heap.size := fun b hb => (Hown.out.lt b hb).2
                  have hcell : ∀ p : Addr, p.block < w'.heap.size → p.block ≠ W2.heap.size → (Value.slice A0 j acap).ownBlock ≠ some p.block → (W8.setCell ⟨W2.heap.size, 3, none⟩ (.slice (some ⟨g8, 0, none⟩) (j + 1) cap8)).cell? p = w'.cell? p := fun p hp h2 hne => World.cell?_of_block ((hblk _ h2).trans (far_block Hgrow8.out hp hne))
                  have hv6 : ∀ b, b < w'.heap.size → (Value.slice A0 j acap).ownBlock ≠ some b → (Value.slice (some ⟨g8, 0, none⟩) (j + 1) cap8).ownBlock ≠ some b := by
                    intro b hb hne e1
                    have : g8 = b := by simpa [Value.ownBlock] using e1
                    rcases Hat8.out with e2 | e2
                    · rw [this] at e2; exact hne e2
                    · omega
                  have hz8' : (W8.setCell ⟨W2.heap.size, 3, none⟩ (.slice (some ⟨g8, 0, none⟩) (j + 1) cap8)).heap.size = W8.heap.size := by simp [World.setCell]
                  refine FoCells.app _ (FoCells.keep _ Hfo3.out ?_ ?_) (FoCells.keep _ Hfo.out ?_ ?_)
                  · rintro b ⟨hb1, hb2⟩
                    have hb1' : wr.heap.size ≤ b := hb1
                    exact ⟨by omega, by omega, hv6 b hb2 (fun e1 => by have := hold b e1; omega)⟩
                  · rintro p ⟨hp1, hp2⟩
                    have hp1' : wr.heap.size ≤ p.block := hp1
                    exact hcell p hp2 (by omega) (fun e1 => by have := hold _ e1; omega)
                  · rintro b ⟨hb1, hb2, hb3⟩
                    exact ⟨hb1, by omega, hv6 b (by omega) hb3⟩
                  · rintro p ⟨hp1, hp2, hp3⟩
                    exact (hcell p (by omega) (by omega) hp3).trans (Hb3.out.cell hp2)
            · go_simp
              have p0 := (World.cell?_alloc_lt w' (.cells #[.int .i64 kd, .int .i64 nu, .string sn, .slice A5 n5 c5] 48) ⟨w.heap.size, 0, none⟩ (Nat.lt_of_lt_of_le l0 hz9)).trans q0
              have p1 := (World.cell?_alloc_lt w' (.cells #[.int .i64 kd, .int .i64 nu, .string sn, .slice A5 n5 c5] 48) ⟨W1.heap.size, 2, none⟩ (Nat.lt_of_lt_of_le l5 hz9)).trans q1
              have p2 := (World.cell?_alloc_lt w' (.cells #[.int .i64 kd, .int .i64 nu, .string sn, .slice A5 n5 c5] 48) ⟨b1, o1 + j, none⟩ (Nat.lt_of_lt_of_le lb1 hz9)).trans q2
              have p3 := (World.cell?_alloc_lt w' (.cells #[.int .i64 kd, .int .i64 nu, .string sn, .slice A5 n5 c5] 48) ⟨W2.heap.size, 3, none⟩ (Nat.lt_of_lt_of_le l6 hz9)).trans q3
              clear hHeld
              refine hK.out _ _ ⟨p0, p1, p2⟩ (fun hHeld => ?_)
              clear hK K
              try simp only [List.getElem_toArray, List.getElem_cons_zero, List.getElem_cons_succ, Act.put, List.setIfInBounds_toArray, List.set_cons_zero, List.set_cons_succ]
              refine wpAnyH_ready (rs := [1]) (by kernel_rfl) (by simp) ?_
              refine AllReadyH.cons (o := _) rfl (fun K hK => ?_) AllReadyH.nil
              go_simp
              refine hK.out _ _ hHeld (fun hHeld => ?_)
              clear hK K
              try simp only [List.getElem_toArray, List.getElem_cons_zero, List.getElem_cons_succ, Act.put, List.setIfInBounds_toArray, List.set_cons_zero, List.set_cons_succ]
              refine wpAnyH_ready (rs := [10]) (by kernel_rfl) (by simp) ?_
              refine AllReadyH.cons (o := _) rfl (fun K hK => ?_) AllReadyH.nil
              refine step_append_lies _ (by rfl) (.tmp 34) (.tmp 42) 34 (by rfl) W3.heap.size 48 i4 (.agg #[.int .i64 0, .int .i64 0, .string ByteArray.empty, .slice none 0 0]) 4 56 Try.underlying34 Ki.out Kz0.out Kz1.out Kz2.out rfl (by decide) (.slice A0 j acap) j cs (by rfl) O4.out ⟨w'.heap.size, 0, none⟩ 1 1 [.int .i64 kd, .int .i64 nu, .string sn, .slice A5 n5 c5] (by rfl) (by rfl) N4.out E4.out (by decide) (by simp only [maxLen]; omega) (by omega) (by simp; omega) (w'.heap.size + 1) (by simp) ?_
              intro g8 cap8 W8 own8 grow8 at8 lt8
              have Hown8 := hide own8
              have Hgrow8 := hide grow8
              have Hat8 := hide at8
              clear own8 grow8 at8 hHeld
              have u0 := (World.cell?_of_block (a := ⟨w.heap.size, 0, none⟩) (far_block Hgrow8.out (Nat.lt_of_lt_of_le l0 hz9) (Hvn.out _ m0))).trans q0
              have u1 := (World.cell?_of_block (a := ⟨W1.heap.size, 2, none⟩) (far_block Hgrow8.out (Nat.lt_of_lt_of_le l5 hz9) (Hvn.out _ m5))).trans q1
              have u2 := (World.cell?_of_block (a := ⟨b1, o1 + j, none⟩) (far_block Hgrow8.out (Nat.lt_of_lt_of_le lb1 hz9) (Hvn.out _ Hbl1.out))).trans q2
              have u3 := (World.cell?_of_block (a := ⟨W2.heap.size, 3, none⟩) (far_block Hgrow8.out (Nat.lt_of_lt_of_le l6 hz9) (Hvn.out _ m6))).trans q3
              have u5 := (World.frozen?_of_block (a := ⟨W2.heap.size, 3, none⟩) (far_block Hgrow8.out (Nat.lt_of_lt_of_le l6 hz9) (Hvn.out _ m6))).trans q4
              refine hK.out _ _ ⟨u0, u1, u2⟩ (fun hHeld => ?_)
              clear hK K
              try simp only [List.getElem_toArray, List.getElem_cons_zero, List.getElem_cons_succ, Act.put, List.setIfInBounds_toArray, List.set_cons_zero, List.set_cons_succ]
              refine wpAnyH_take (i := 11) (oi := _) (v := ?_) rfl (by kernel_rfl) (by kernel_rfl) (by kernel_rfl) (fun _ _ _ h => h) (Or.inl ⟨by rfl, ?_⟩) hHeld ?_
              rotate_left
              · intro w' hSw
                obtain ⟨hS0, hS1, hS2⟩ := hSw
                go_simp
                try (with_reducible rfl)
              try simp only [List.getElem_toArray, List.getElem_cons_zero, List.getElem_cons_succ, Act.put, List.setIfInBounds_toArray, List.set_cons_zero, List.set_cons_succ]
              refine wpAnyH_ready (rs := [12]) (by kernel_rfl) (by simp) ?_
              refine AllReadyH.cons (o := _) rfl (fun K hK => ?_) AllReadyH.nil
              go_simp
              have v0 := (World.cell?_setCell_far W8 ⟨W2.heap.size, 3, none⟩ ⟨w.heap.size, 0, none⟩ (.slice (some ⟨g8, 0, none⟩) (j + 1) cap8) ne0).trans u0
              have v1 := (World.cell?_setCell_far W8 ⟨W2.heap.size, 3, none⟩ ⟨W1.heap.size, 2, none⟩ (.slice (some ⟨g8, 0, none⟩) (j + 1) cap8) ne1).trans u1
              have v2 := (World.cell?_setCell_far W8 ⟨W2.heap.size, 3, none⟩ ⟨b1, o1 + j, none⟩ (.slice (some ⟨g8, 0, none⟩) (j + 1) cap8) ne2).trans u2
              clear hHeld
              refine hK.out _ _ ⟨v0, v1, v2⟩ (fun hHeld => ?_)
              clear hK K
              try simp only [List.getElem_toArray, List.getElem_cons_zero, List.getElem_cons_succ, Act.put, List.setIfInBounds_toArray, List.set_cons_zero, List.set_cons_succ]
              refine wpAnyH_done (by kernel_rfl) ?_ _
              refine NoPanic.normal ?_
              clear v0 v1 v2 u0 u1 u2 u3 u5 q0 q1 q2 q3 q4 hHeld
              have hz8 := Hgrow8.out.size
              rw [World.size_alloc] at hz8
              go_wp2
              go_roundw
              case measure => simp [intOf]; omega
              case rel =>
                have hvn8 : ∀ b, b < W3.heap.size → (Value.slice A0 j acap).ownBlock ≠ some b := Hvn.out
                have hon : Only (fun b => b = W2.heap.size ∨ (Value.slice A0 j acap).ownBlock = some b) wr (W8.setCell ⟨W2.heap.size, 3, none⟩ (.slice (some ⟨g8, 0, none⟩) (j + 1) cap8)) :=
                  (((Only.of_below Hb3.out _).alloc _).grown Hgrow8.out (fun b hb => .inl (.inr hb))).setCell (.inl (.inl rfl)) _
                have hblk : ∀ b, b ≠ W2.heap.size → (W8.setCell ⟨W2.heap.size, 3, none⟩ (.slice (some ⟨g8, 0, none⟩) (j + 1) cap8)).heap[b]? = W8.heap[b]? := fun b hb => Below.heap_setCell _ _ _ b hb
                have hg8 : g8 ≠ W2.heap.size := by
                  rcases Hat8.out with e | e
                  · intro e2; subst e2; exact hvn8 _ m6 e
                  · omega
                have hbox8 : W8.heap[W2.heap.size]? = some (.cells #[.int .i64 P.kind, .int .i64 0, .string P.name, .slice A0 j acap] 48 (0, 0)) := (far_block Hgrow8.out (Nat.lt_of_lt_of_le l6 hz9) (hvn8 _ m6)).trans ((Hb3.out.block _ l6).trans HRr.out.box)
                refine ⟨j + 1, _, by go_num, by omega, HRr.out.only.then_ hon (fun b hb hl => ?_), blk_set hbox8 3 _, Aj.app B, R', cs ++ [.int .i64 kd, .int .i64 nu, .string sn, .slice A5 n5 c5], ?_, ?_, HsR.out, own_keep Hown8.out (fun b hb => hblk b (by simp [Value.ownBlock] at hb; omega)), ?_⟩
                · rcases hb with hb | hb
                  · exact hb
                  · exact absurd hb (hvn8 b hl)
                · rw [Hsp.out, HRR.out, Fo.app_assoc]
                · rw [Htake.out]; exact Hs1.out.app HsB.out
                · have hold : ∀ b, (Value.slice A0 j acap).ownBlock = some b → b < wr.heap.size := fun b hb => (Hown.out.lt b hb).2
                  have hcell : ∀ p : Addr, p.block < w'.heap.size → p.block ≠ W2.heap.size → (Value.slice A0 j acap).ownBlock ≠ some p.block → (W8.setCell ⟨W2.heap.size, 3, none⟩ (.slice (some ⟨g8, 0, none⟩) (j + 1) cap8)).cell? p = w'.cell? p := fun p hp h2 hne => World.cell?_of_block ((hblk _ h2).trans (far_block Hgrow8.out hp hne))
                  have hv6 : ∀ b, b < w'.heap.size → (Value.slice A0 j acap).ownBlock ≠ some b → (Value.slice (some ⟨g8, 0, none⟩) (j + 1) cap8).ownBlock ≠ some b := by
                    intro b hb hne e1
                    have : g8 = b := by simpa [Value.ownBlock] using e1
                    rcases Hat8.out with e2 | e2
                    · rw [this] at e2; exact hne e2
                    · omega
                  have hz8' : (W8.setCell ⟨W2.heap.size, 3, none⟩ (.slice (some ⟨g8, 0, none⟩) (j + 1) cap8)).heap.size = W8.heap.size := by simp [World.setCell]
                  refine FoCells.app _ (FoCells.keep _ Hfo3.out ?_ ?_) (FoCells.keep _ Hfo.out ?_ ?_)
                  · rintro b ⟨hb1, hb2⟩
                    have hb1' : wr.heap.size ≤ b := hb1
                    exact ⟨by omega, by omega, hv6 b hb2 (fun e1 => by have := hold b e1; omega)⟩
                  · rintro p ⟨hp1, hp2⟩
                    have hp1' : wr.heap.size ≤ p.block := hp1
                    exact hcell p hp2 (by omega) (fun e1 => by have := hold _ e1; omega)
                  · rintro b ⟨hb1, hb2, hb3⟩
                    exact ⟨hb1, by omega, hv6 b (by omega) hb3⟩
                  · rintro p ⟨hp1, hp2, hp3⟩
                    exact (hcell p (by omega) (by omega) hp3).trans (Hb3.out.cell hp2)
        · --LAST
          obtain rfl : j = P.args.length := by omega
          obtain ⟨Aj, Rj, cs, hsp, hs1, hs2, hown, hfo⟩ := Rr.parts
          rw [List.drop_length] at hs2
          cases hs2
          rw [Fo.app_nil] at hsp
          subst hsp
          obtain ⟨r0, r1, r2, r3, rf⟩ := four_cells ((Rr.only.block (w.heap.size + 1) (by omega) (by omega)).trans HR23.out)
          have z0 := rf 0; have z1 := rf 1; have z2 := rf 2; have z3 := rf 3
          have hownB : ∀ b, va.ownBlock = some b → W3.heap.size ≤ b ∧ b < wr.heap.size := fun b hb => hown.lt b hb
          obtain ⟨A6, cap6, hv8, -, -⟩ := own_len hown
          have HRr := hide Rr; have Hown := hide hown; have Hfo := hide hfo; have HownB := hide hownB
          subst hv8
          clear Rr hown hfo rf hownB hs1 wf y0 y1 s0 t0
          go_wp2
          obtain ⟨c0, c1, c2, c3⟩ := set4_cells wr (w.heap.size + 1) (.int .i64 P.kind) (.int .i64 0) (.string P.name) (.slice A6 P.args.length cap6) _ _ _ _ r0 r1 r2 r3
          have hbf : Hid (Below w.heap.size w (set4 wr (w.heap.size + 1) (.int .i64 P.kind) (.int .i64 0) (.string P.name) (.slice A6 P.args.length cap6))) := hide (set4_below (Only.below_trans Hbw3.out HRr.out.only (fun b _ e => by omega) (by omega)) (by omega) _ _ _ _)
          have hcell : ∀ p : Addr, p.block ≠ w.heap.size + 1 → (set4 wr (w.heap.size + 1) (.int .i64 P.kind) (.int .i64 0) (.string P.name) (.slice A6 P.args.length cap6)).cell? p = wr.cell? p := fun p hp => World.cell?_of_block (set4_other wr _ _ _ _ _ p.block hp)
          have hsz := set4_size wr (w.heap.size + 1) (.int .i64 P.kind) (.int .i64 0) (.string P.name) (.slice A6 P.args.length cap6)
          have hown9 : (set4 wr (w.heap.size + 1) (.int .i64 P.kind) (.int .i64 0) (.string P.name) (.slice A6 P.args.length cap6)).ownsRow W3.heap.size 48 4 (.slice A6 P.args.length cap6) A.len cs := by
            rw [HAl.out]
            exact own_keep Hown.out (fun b hb => set4_other wr _ _ _ _ _ b (by have := (HownB.out b hb).1; omega))
          have hfo9 : FoCells (set4 wr (w.heap.size + 1) (.int .i64 P.kind) (.int .i64 0) (.string P.name) (.slice A6 P.args.length cap6)) (fun b => w.heap.size ≤ b ∧ b < (set4 wr (w.heap.size + 1) (.int .i64 P.kind) (.int .i64 0) (.string P.name) (.slice A6 P.args.length cap6)).heap.size) A cs :=
            FoCells.keep _ Hfo.out (fun b hb => ⟨by omega, by rw [hsz]; exact hb.2.1⟩) (fun p hp => hcell p (by omega))
          obtain ⟨A7, c7, he7, hat7⟩ := fo_of_own hown9 hfo9 (fun b hb => by have := HownB.out b hb; rw [hsz]; omega)
          have HAt : Hid (FoAt (set4 wr (w.heap.size + 1) (.int .i64 P.kind) (.int .i64 0) (.string P.name) (.slice A6 P.args.length cap6)) (fun b => w.heap.size ≤ b ∧ b < (set4 wr (w.heap.size + 1) (.int .i64 P.kind) (.int .i64 0) (.string P.name) (.slice A6 P.args.length cap6)).heap.size) A6 A) := by
            obtain rfl : A6 = A7 := by injection he7
            exact hide hat7
          clear he7 hat7 hown9 hfo9 hcell hsz
          change bodyPost Try.prog Try.f43 _ _ _ (set4 wr (w.heap.size + 1) (.int .i64 P.kind) (.int .i64 0) (.string P.name) (.slice A6 P.args.length cap6))
          clear r0 r1 r2 r3 z0 z1 z2 z3 w0 w1 w2 w3 wf3 y2
          generalize set4 wr (w.heap.size + 1) (.int .i64 P.kind) (.int .i64 0) (.string P.name) (.slice A6 P.args.length cap6) = W9 at *
          refine bodyPost_ret (v := .agg #[.int .i64 P.kind, .int .i64 0, .string P.name, .slice A6 P.args.length cap6]) (by simp [results, Try.results43, go_sem, c0, c1, c2, c3]) rfl ⟨P.kind, 0, P.name, A6, P.args.length, cap6, rfl, ⟨A6, cap6, [], by rw [HAl.out], ?_, rfl⟩, hbf.out⟩
          rcases HAt.out with h1 | ⟨b, off, cs', e1, h2, h3, h4⟩
          · exact .inl h1
          · exact .inr ⟨b, off, cs', e1, h2, h3, h4⟩
end Go.Proofs.Ytafpbdmggnfdnaa

/- The reference's numbered: a type whose variables have the numbers of a list. -/
namespace Go.Proofs.Ytafpbdmggnfdnaa
open Go.RowKit Go.Maps
set_option linter.unusedVariables false

def Fo.takeF : Fo → Nat → Fo
  | _, 0 => .nil
  | .nil, _ => .nil
  | .var n r, j + 1 => .var n (r.takeF j)
  | .con k m a r, j + 1 => .con k m a (r.takeF j)
theorem Fo.takeF_zero (a : Fo) : a.takeF 0 = .nil := by cases a <;> rfl
theorem Fo.takeF_succ (a : Fo) : ∀ j, j < a.len → a.takeF (j + 1) = (a.takeF j).app (a.nth j) := by
  induction a with
  | nil => intro j hj; simp [Fo.len] at hj
  | var n r ih =>
    intro j hj
    cases j with
    | zero => simp [Fo.takeF, Fo.nth, Fo.app, Fo.takeF_zero]
    | succ j =>
      have := ih j (by simp [Fo.len] at hj; omega)
      simp only [Fo.takeF, Fo.nth, Fo.app]
      rw [← this]
  | con k m x r _ ih =>
    intro j hj
    cases j with
    | zero => simp [Fo.takeF, Fo.nth, Fo.app, Fo.takeF_zero]
    | succ j =>
      have := ih j (by simp [Fo.len] at hj; omega)
      simp only [Fo.takeF, Fo.nth, Fo.app]
      rw [← this]
theorem Fo.takeF_all (a : Fo) : a.takeF a.len = a := by
  induction a with
  | nil => rfl
  | var n r ih => simp [Fo.len, Fo.takeF, ih]
  | con k m x r _ ih => simp [Fo.len, Fo.takeF, ih]
theorem Fo.nth_vars (a : Fo) : ∀ i, ∀ v ∈ (a.nth i).vars, v ∈ a.vars := by
  induction a with
  | nil => intro i v hv; simp [Fo.nth, Fo.vars] at hv
  | var n r ih =>
    intro i v hv
    cases i with
    | zero => simp [Fo.nth, Fo.vars] at hv ⊢; exact .inl hv
    | succ i => simp only [Fo.vars, List.mem_cons]; exact .inr (ih i v hv)
  | con k m x r _ ih =>
    intro i v hv
    cases i with
    | zero => simp [Fo.nth, Fo.vars] at hv ⊢; exact .inl hv
    | succ i => simp only [Fo.vars, List.mem_append]; exact .inr (ih i v hv)
/-- At the head of a round over the arguments. -/
structure NmRel (W0 : World) (num : Nat → Nat) (a : Fo) (va : Value) (j : Nat) (wr : World) : Prop where
  below : Below W0.heap.size W0 wr
  parts : ∃ cs, wr.ownsRow W0.heap.size 48 4 va j cs ∧ FoCells wr (fun b => W0.heap.size ≤ b ∧ b < wr.heap.size ∧ va.ownBlock ≠ some b) ((a.takeF j).mapv num) cs
set_option maxRecDepth 100000 in
set_option maxHeartbeats 4000000 in
theorem rnum_any (P : Nat → Prop) (gs : Nat) (l : List Nat) (hll : l.length ≤ 1000000) (k : Nat) : ∀ (T : Fo) (w : World) (kd nu : Int) (s : ByteArray) (A : Option Addr) (n c : Nat), T.Proper → T.cnt ≤ k → T.cnt ≤ 1000000 → (∀ b, P b → b < w.heap.size) → (∀ v ∈ T.vars, v < l.length) → Arr w gs l → FoCells w P T (tyCells kd nu s A n c) →
    Calls Try.prog 45 #[.agg #[.int .i64 kd, .int .i64 nu, .string s, .slice A n c], .slice (some ⟨gs, 0, none⟩) l.length l.length] w (ToldPost w (T.mapv (par l))) := by
  induction k with
  | zero =>
    intro T w kd nu s A n c _ hk _ _ _ _ h1
    rcases h1.parts with ⟨m, rfl, _⟩ | ⟨a, rfl, _⟩ <;> simp [Fo.cnt] at hk
  | succ k ih =>
    intro T w kd nu s A n c hpr hk hk5 hP hvl harr h1
    have IH := hide ih
    have hgl := harr.lt
    obtain ⟨b0, b1, bb, bz⟩ := box_four w (.int .i64 kd) (.int .i64 nu) (.string s) (.slice A n c) (.int .i64 0) (.int .i64 0) (.string ⟨#[]⟩) (.slice none 0 0) 48
    obtain ⟨W0, hW0⟩ : ∃ W0, (w.alloc (.cells #[.int .i64 kd, .int .i64 nu, .string s, .slice A n c] 48)).alloc (.cells #[.int .i64 0, .int .i64 0, .string ⟨#[]⟩, .slice none 0 0] 48) = W0 := ⟨_, rfl⟩
    rw [hW0] at b0 b1 bb bz
    have HW0 := hide hW0; have Hb0 := hide b0; have Hb1 := hide b1; have Hbb := hide bb; have Hbz := hide bz; have HP := hide hP; have Harr := hide harr
    clear ih hW0 b0 b1 bb bz hP harr
    have hz0 : w.heap.size + 2 ≤ W0.heap.size := by have := Hbz.out; omega
    rcases h1.parts with ⟨m, rfl, rfl, rfl, rfl, rfl⟩ | ⟨a, rfl, rfl, rfl, ha⟩
    · have hmv : m < l.length := hvl m (by simp [Fo.vars])
      obtain ⟨x0, x1, -, -, -⟩ := four_cells Hb0.out
      obtain ⟨r0, r1, r2, r3, rf⟩ := four_cells Hb1.out
      have z0 := rf 0; have z1 := rf 1; have z2 := rf 2; have z3 := rf 3
      have e1 := (Harr.out.keep (Hbb.out.block gs hgl)).cell m hmv
      obtain ⟨y, hy⟩ : ∃ y, par l m = y := ⟨_, rfl⟩
      rw [hy] at e1
      have Hy := hide hy
      clear h1 IH rf hy hvl hpr hk hk5
      go_enter Try.func45, Try.ntmps45
      go_upto_region 1 with fail
      simp only [HW0.out]
      go_wp2
      obtain ⟨c0, c1, c2, c3⟩ := set4_cells W0 (w.heap.size + 1) (.int .i64 1) (.int .i64 (y : Int)) (.string ⟨#[]⟩) (.slice none 0 0) _ _ _ _ r0 r1 r2 r3
      have hbf : Hid (Below w.heap.size w (set4 W0 (w.heap.size + 1) (.int .i64 1) (.int .i64 (y : Int)) (.string ⟨#[]⟩) (.slice none 0 0))) := hide (set4_below Hbb.out (by omega) _ _ _ _)
      change bodyPost Try.prog Try.f45 _ _ _ (set4 W0 (w.heap.size + 1) (.int .i64 1) (.int .i64 (y : Int)) (.string ⟨#[]⟩) (.slice none 0 0))
      clear r0 r1 r2 r3 z0 z1 z2 z3 x0 x1 e1
      generalize set4 W0 (w.heap.size + 1) (.int .i64 1) (.int .i64 (y : Int)) (.string ⟨#[]⟩) (.slice none 0 0) = W9 at *
      exact bodyPost_ret (v := .agg #[.int .i64 1, .int .i64 (y : Int), .string ⟨#[]⟩, .slice none 0 0]) (by simp [results, Try.results45, go_sem, c0, c1, c2, c3]) rfl ⟨1, (y : Int), ⟨#[]⟩, none, 0, 0, rfl, ⟨none, 0, [], by rw [Hy.out]; rfl, rfl⟩, hbf.out⟩
    · have Ha := hide ha
      have hak : a.cnt ≤ k := by simp only [Fo.cnt] at hk; omega
      have hal : a.len ≤ 1000000 := by have := a.len_le; simp only [Fo.cnt] at hk5; omega
      have hak5 : a.cnt ≤ 1000000 := by simp only [Fo.cnt] at hk5; omega
      have kk : (kd == 1) = false := by have := hpr.1; simpa using this
      have Hpr := hide hpr.2.1
      have Hvl : Hid (∀ v ∈ a.vars, v < l.length) := hide (fun v hv => hvl v (by simp [Fo.vars, hv]))
      obtain ⟨i4, ki, kz0, kz1, kz2⟩ := info_parts tyInfo
      have Ki := hide ki; have Kz0 := hide kz0; have Kz1 := hide kz1; have Kz2 := hide kz2
      obtain ⟨x0, -, -, x3, -⟩ := four_cells Hb0.out
      clear h1 ha hpr hk hk5 hvl ki kz0 kz1 kz2
      go_enter Try.func45, Try.ntmps45
      go_upto_region 1 with fail
      simp only [HW0.out]
      go_upto_region 4 with fail
      obtain ⟨W2, hW2⟩ : ∃ W2, W0.alloc (.cells #[] 48) = W2 := ⟨_, rfl⟩
      have HR0 : Hid (NmRel W0 (par l) a (.slice (some ⟨W0.heap.size, 0, none⟩) 0 0) 0 W2) := hide ⟨by rw [← hW2]; exact (Below.refl _ _).alloc (Nat.le_refl _) _, [], by
        rw [← hW2]
        exact World.ownsRow_made (base := W0.heap.size) (e := 48) (size := 4) W0 #[] 0 (Nat.le_refl _) (Nat.zero_le _) rfl, by rw [Fo.takeF_zero]; rfl⟩
      simp only [hW2]
      clear hW2 x0 x3
      go_wp2
      go_loopw [5, 6] (fun va vj wr => ∃ j : Nat, vj = .int .i64 j ∧ j ≤ a.len ∧ NmRel W0 (par l) a va j wr) (fun _ vj _ => a.len - (intOf vj).toNat)
      case atStart => exact ⟨0, rfl, by omega, HR0.out⟩
      case round =>
        obtain ⟨j, rfl, hj, Rr⟩ := hrel
        clear HR0
        obtain ⟨-, -, -, x3, -⟩ := four_cells ((Rr.below.block w.heap.size (by omega)).trans Hb0.out)
        have HRr := hide Rr
        obtain ⟨cs, hown, hfo⟩ := Rr.parts
        have Hown := hide hown; have Hfo := hide hfo
        clear Rr hown hfo
        by_cases hlt : j < a.len
        · obtain ⟨b, off, kx, nx, sx, Bx, mx, cx, rfl, hb, p0, p1, p2, p3, hfx⟩ := Ha.out.nth j hlt
          have hbw : Below w.heap.size w wr := Hbb.out.trans (HRr.out.below.mono Hbb.out.size)
          have hbl := HP.out b hb
          have p0 := (hbw.cell (p := ⟨b, off + j * 4, none⟩) hbl).trans p0
          have p1 := (hbw.cell (p := ⟨b, off + j * 4 + 1, none⟩) hbl).trans p1
          have p2 := (hbw.cell (p := ⟨b, off + j * 4 + 2, none⟩) hbl).trans p2
          have p3 := (hbw.cell (p := ⟨b, off + j * 4 + 3, none⟩) hbl).trans p3
          have HC := hide (IH.out (a.nth j) wr kx nx sx Bx mx cx (a.nth_proper j Hpr.out) (Nat.le_trans (a.nth_cnt j) hak) (Nat.le_trans (a.nth_cnt j) hak5) (fun b' hb' => Nat.lt_of_lt_of_le (HP.out b' hb') hbw.size) (fun v hv => Hvl.out v (a.nth_vars j v hv)) (Harr.out.keep (hbw.block gs hgl)) (FoCells.keep _ hfx (fun _ h => h) (fun p hp => hbw.cell (HP.out _ hp))))
          have Htake : Hid ((a.takeF (j + 1)).mapv (par l) = ((a.takeF j).mapv (par l)).app ((a.nth j).mapv (par l))) := hide (by rw [a.takeF_succ j hlt, Fo.mapv_app])
          clear hfx hb hbw
          go_wp2_with fail
          refine HC.out.mono ?_
          rintro e W3 ⟨ke, ne, sn, A5, n5, c5, rfl, hfo3, hb3⟩
          have own3 := own_keep Hown.out (fun b hb => hb3.block b (Hown.out.lt b hb).2)
          have hbW : Below W0.heap.size W0 W3 := HRr.out.below.trans (hb3.mono HRr.out.below.size)
          have O4 := hide (own3.alloc (.cells #[.int .i64 ke, .int .i64 ne, .string sn, .slice A5 n5 c5] 48))
          have N4 := hide (four_new W3 (.int .i64 ke) (.int .i64 ne) (.string sn) (.slice A5 n5 c5) 48)
          have E4 : Hid (∀ u ∈ [Value.int .i64 ke, .int .i64 ne, .string sn, .slice A5 n5 c5], u.oneCell' = true) := hide (by simp [Value.oneCell'])
          have Hb4 := hide (hbW.alloc hbW.size (.cells #[.int .i64 ke, .int .i64 ne, .string sn, .slice A5 n5 c5] 48))
          have hz4 : W0.heap.size ≤ W3.heap.size := hbW.size
          have Hb3 := hide hb3; have Hfo3 := hide hfo3
          have hw2 : W0.heap.size ≤ wr.heap.size := HRr.out.below.size
          clear own3 hbW hb3 hfo3 HC
          go_wp2_with (at_builtin; refine wpList_append_own_at _ rfl (.tmp 24) (.tmp 32) 34 rfl W0.heap.size 48 i4 (.agg #[.int .i64 0, .int .i64 0, .string ByteArray.empty, .slice none 0 0]) 4 56 Try.underlying34 Ki.out Kz0.out Kz1.out Kz2.out rfl (by decide) u5 j cs rfl O4.out ⟨W3.heap.size, 0, none⟩ 1 1 [.int .i64 ke, .int .i64 ne, .string sn, .slice A5 n5 c5] rfl rfl N4.out E4.out (by simp only [maxLen]; omega) (by omega) (by simp; omega) ?_; intro v6 W6 own6 grow6 nil6 at6; clear nil6; have Hown6 := hide own6; have Hgrow6 := hide grow6; have Hat6 := hide at6; clear own6 grow6 at6)
          go_roundw
          case measure => simp [intOf]; omega
          case rel =>
            refine ⟨j + 1, by go_num, by omega, Hb4.out.grown Hgrow6.out (by simp; omega) (fun b hb => (Hown.out.lt b hb).1), _, Hown6.out, ?_⟩
            have hs6 := Hgrow6.out.size
            rw [World.size_alloc] at hs6
            have hsz3 := Hb3.out.size
            have hsz4 : (W3.alloc (.cells #[.int .i64 ke, .int .i64 ne, .string sn, .slice A5 n5 c5] 48)).heap.size = W3.heap.size + 1 := World.size_alloc _ _
            have hcell : ∀ p : Addr, p.block < W3.heap.size → u5.ownBlock ≠ some p.block → W6.cell? p = W3.cell? p := fun p hp hne => (Hgrow6.out.cell_far p (by rw [hsz4]; omega) (fun e1 => hne e1.symm)).trans (World.cell?_alloc_lt W3 _ p hp)
            have hold : ∀ b, u5.ownBlock = some b → b < wr.heap.size := fun b hb => (Hown.out.lt b hb).2
            have hv6 : ∀ b, b < W3.heap.size → u5.ownBlock ≠ some b → v6.ownBlock ≠ some b := by
              intro b hb hne e1
              rcases Hat6.out with e2 | e2
              · rw [e2] at e1; exact hne e1
              · rw [e2, hsz4] at e1; injection e1 with e1; omega
            rw [Htake.out]
            refine FoCells.app _ (FoCells.keep _ Hfo3.out ?_ ?_) (FoCells.keep _ Hfo.out ?_ ?_)
            · intro b hb
              exact ⟨by omega, by omega, hv6 b hb.2 (fun e1 => by have := hold b e1; omega)⟩
            · intro p hp
              exact hcell p hp.2 (fun e1 => by have := hold _ e1; omega)
            · intro b hb
              exact ⟨hb.1, by omega, hv6 b (by omega) hb.2.2⟩
            · intro p hp
              exact (hcell p (by omega) hp.2.2).trans (Hb3.out.cell hp.2.1)
        · obtain rfl : j = a.len := by omega
          obtain ⟨x0, x1, x2, x3, xf⟩ := four_cells ((HRr.out.below.block w.heap.size (by omega)).trans Hb0.out)
          have xz := xf 3
          obtain ⟨A6, cap6, hv8, -, -⟩ := own_len Hown.out
          subst hv8
          obtain ⟨r0, r1, r2, r3, rf⟩ := four_cells ((HRr.out.below.block (w.heap.size + 1) (by omega)).trans Hb1.out)
          have z0 := rf 0; have z1 := rf 1; have z2 := rf 2; have z3 := rf 3
          have hw2 := HRr.out.below.size
          have HownB : Hid (∀ b, (Value.slice A6 a.len cap6).ownBlock = some b → W0.heap.size ≤ b ∧ b < wr.heap.size) := hide (fun b hb => Hown.out.lt b hb)
          clear rf xf
          go_wp2
          obtain ⟨W7, hW7⟩ : ∃ W7, wr.setCell ⟨w.heap.size, 3, none⟩ (.slice A6 a.len cap6) = W7 := ⟨_, rfl⟩
          have h7o : ∀ b, b ≠ w.heap.size → W7.heap[b]? = wr.heap[b]? := fun b hb => by rw [← hW7]; exact Below.heap_setCell _ _ _ b hb
          have h7z : W7.heap.size = wr.heap.size := by rw [← hW7]; simp [World.setCell]
          have h7b : Below w.heap.size w W7 := by rw [← hW7]; exact (Hbb.out.trans (HRr.out.below.mono Hbb.out.size)).setCell (Nat.le_refl _) _
          have h7c : ∀ j : Nat, W7.cell? ⟨w.heap.size + 1, j, none⟩ = wr.cell? ⟨w.heap.size + 1, j, none⟩ := fun j => World.cell?_of_block (h7o (w.heap.size + 1) (by omega))
          simp only [hW7]
          obtain ⟨c0, c1, c2, c3⟩ := set4_cells W7 (w.heap.size + 1) (.int .i64 kd) (.int .i64 0) (.string s) (.slice A6 a.len cap6) _ _ _ _ ((h7c _).trans r0) ((h7c _).trans r1) ((h7c _).trans r2) ((h7c _).trans r3)
          obtain ⟨W9, hW9⟩ : ∃ W9, set4 W7 (w.heap.size + 1) (.int .i64 kd) (.int .i64 0) (.string s) (.slice A6 a.len cap6) = W9 := ⟨_, rfl⟩
          change bodyPost Try.prog Try.f45 _ _ _ (set4 W7 (w.heap.size + 1) (.int .i64 kd) (.int .i64 0) (.string s) (.slice A6 a.len cap6))
          have hbf : Below w.heap.size w W9 := by rw [← hW9]; exact set4_below h7b (by omega) _ _ _ _
          have h9o : ∀ b, b ≠ w.heap.size → b ≠ w.heap.size + 1 → W9.heap[b]? = wr.heap[b]? := fun b h1 h2 => by rw [← hW9, set4_other _ _ _ _ _ _ b h2]; exact h7o b h1
          have h9z : W9.heap.size = wr.heap.size := by rw [← hW9, set4_size]; exact h7z
          rw [hW9] at c0 c1 c2 c3 ⊢
          have hown9 : W9.ownsRow W0.heap.size 48 4 (.slice A6 a.len cap6) (a.mapv (par l)).len cs := by
            rw [Fo.len_mapv]
            exact own_keep Hown.out (fun b hb => h9o b (by have := (HownB.out b hb).1; omega) (by have := (HownB.out b hb).1; omega))
          have hfo9 : FoCells W9 (fun b => w.heap.size ≤ b ∧ b < W9.heap.size) (a.mapv (par l)) cs := by
            have := Hfo.out
            rw [Fo.takeF_all] at this
            exact FoCells.keep _ this (fun b hb => ⟨by omega, by rw [h9z]; exact hb.2.1⟩) (fun p hp => World.cell?_of_block (h9o _ (by omega) (by omega)))
          obtain ⟨A7, c7, he7, hat7⟩ := fo_of_own hown9 hfo9 (fun b hb => by have := HownB.out b hb; rw [h9z]; omega)
          obtain rfl : A6 = A7 := by injection he7
          refine bodyPost_ret (v := .agg #[.int .i64 kd, .int .i64 0, .string s, .slice A6 a.len cap6]) (by simp [results, Try.results45, go_sem, c0, c1, c2, c3]) rfl ⟨kd, 0, s, A6, a.len, cap6, rfl, ⟨A6, cap6, [], by rw [Fo.len_mapv], ?_, rfl⟩, hbf⟩
          rcases hat7 with h1 | ⟨b, off, cs', e1, h2, h3, h4⟩
          · exact .inl h1
          · exact .inr ⟨b, off, cs', e1, h2, h3, h4⟩
end Go.Proofs.Ytafpbdmggnfdnaa
