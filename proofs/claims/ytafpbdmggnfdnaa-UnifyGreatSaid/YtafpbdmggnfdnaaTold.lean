/- The program's store: told. -/
import Derived.Test.YtafpbdmggnfdnaaTypes
namespace Go.Proofs.Ytafpbdmggnfdnaa
open Go.RowKit Go.Maps
set_option linter.unusedVariables false

/-- A value of api.Type that is this tree; all behind it is new. -/
def ToldPost (w : World) (F : Fo) (e : Ending) (w' : World) : Prop :=
  ∃ (kd nu : Int) (s : ByteArray) (A : Option Addr) (n c : Nat), e = .returned (.agg #[.int .i64 kd, .int .i64 nu, .string s, .slice A n c]) ∧ FoCells w' (fun k => w.heap.size ≤ k ∧ k < w'.heap.size) F [.int .i64 kd, .int .i64 nu, .string s, .slice A n c] ∧ Below w.heap.size w w'
theorem four_cells {W : World} {g : Nat} {u0 u1 u2 u3 : Value} {t : TypeId} (h : W.heap[g]? = some (.cells #[u0, u1, u2, u3] t (0, 0))) :
    W.cell? ⟨g, 0, none⟩ = some u0 ∧ W.cell? ⟨g, 1, none⟩ = some u1 ∧ W.cell? ⟨g, 2, none⟩ = some u2 ∧ W.cell? ⟨g, 3, none⟩ = some u3 ∧ ∀ k, W.frozen? ⟨g, k, none⟩ = false := by
  refine ⟨?_, ?_, ?_, ?_, fun k => by simp [World.frozen?, h]⟩ <;> (rw [cell_of_row _ _ _ _ _ _ h]; rfl)
theorem three_cells {W : World} {g : Nat} {u0 u1 u2 : Value} {t : TypeId} (h : W.heap[g]? = some (.cells #[u0, u1, u2] t (0, 0))) :
    W.cell? ⟨g, 0, none⟩ = some u0 ∧ W.cell? ⟨g, 1, none⟩ = some u1 ∧ W.cell? ⟨g, 2, none⟩ = some u2 := by
  refine ⟨?_, ?_, ?_⟩ <;> (rw [cell_of_row _ _ _ _ _ _ h]; rfl)
theorem set4_below {w W : World} {B g : Nat} (h : Below B w W) (hg : B ≤ g) (u0 u1 u2 u3 : Value) : Below B w (set4 W g u0 u1 u2 u3) :=
  (((h.setCell (p := ⟨g, 0, none⟩) hg _).setCell (p := ⟨g, 1, none⟩) hg _).setCell (p := ⟨g, 2, none⟩) hg _).setCell (p := ⟨g, 3, none⟩) hg _
theorem set4_size (W : World) (g : Nat) (u0 u1 u2 u3 : Value) : (set4 W g u0 u1 u2 u3).heap.size = W.heap.size := by simp [set4, World.setCell]
theorem set4_other (W : World) (g : Nat) (u0 u1 u2 u3 : Value) (k : Nat) (h : k ≠ g) : (set4 W g u0 u1 u2 u3).heap[k]? = W.heap[k]? := by
  unfold set4
  rw [Below.heap_setCell _ _ _ k h, Below.heap_setCell _ _ _ k h, Below.heap_setCell _ _ _ k h, Below.heap_setCell _ _ _ k h]

/-- At the head of a round over the arguments. -/
structure TRel (W2 : World) (S : PS) (c num : Nat → Nat) (args : List Nat) (A : Fo) (va : Value) (j : Nat) (wr : World) : Prop where
  below : Below W2.heap.size W2 wr
  parts : ∃ Aj Rj cs, A = Aj.app Rj ∧ Stands S.nodes c (par S.forms) (args.take j) Aj ∧ Stands S.nodes c (par S.forms) (args.drop j) Rj ∧ wr.ownsRow W2.heap.size 48 4 va j cs ∧
    FoCells wr (fun b => W2.heap.size ≤ b ∧ b < wr.heap.size ∧ va.ownBlock ≠ some b) (Aj.mapv num) cs
theorem Fo.len_mapv (f : Nat → Nat) (a : Fo) : (a.mapv f).len = a.len := by
  induction a with
  | nil => rfl
  | var n r ih => simp [Fo.mapv, Fo.len, ih]
  | con k m x r _ ih => simp [Fo.mapv, Fo.len, ih]
theorem Fo.app_assoc (a b c : Fo) : a.app (b.app c) = (a.app b).app c := by
  induction a with
  | nil => rfl
  | var n r ih => simp [Fo.app, ih]
  | con k m x r _ ih => simp [Fo.app, ih]
theorem Fo.app_nil (a : Fo) : a.app .nil = a := by
  induction a with
  | nil => rfl
  | var n r ih => simp [Fo.app, ih]
  | con k m x r _ ih => simp [Fo.app, ih]
set_option maxRecDepth 100000 in
set_option maxHeartbeats 4000000 in
theorem told_any {base : Nat} {L : Lay} {S : PS} {c d : Nat → Nat} (hi : Ok S c d) (bm nm : Nat) (num : Nat → Nat) (k : Nat) : ∀ (x : Nat) (T : Fo) (w : World), T.cnt ≤ k → St w base L S → MapIs w bm nm num → x < S.nodes.length → Stands S.nodes c (par S.forms) [x] T →
    Calls Try.prog 42 #[.pointer (some ⟨L.g, 0, none⟩), .int .i64 (x : Int), .map (some bm)] w (ToldPost w (T.mapv num)) := by
  induction k with
  | zero =>
    intro x T w hT _ _ _ hS
    cases hS with
    | var _ _ _ => simp [Fo.cnt] at hT
    | con _ _ _ _ => simp [Fo.cnt] at hT
  | succ k ih =>
    intro x T w hT h hmap hx hS
    have IH := hide ih
    have hm := h.many
    have Hi := hide hi
    have hb1 : Below w.heap.size w (w.alloc (.cells #[.int .i64 0, .int .i64 0, .string ⟨#[]⟩, .slice none 0 0] 48)) := (Below.refl _ _).alloc (Nat.le_refl _) _
    have hR0 := heap_alloc_new w (.cells #[.int .i64 0, .int .i64 0, .string ⟨#[]⟩, .slice none 0 0] 48)
    have hF0 := h.later hb1
    have hrx := hi.inv.root x hx
    obtain ⟨W0, hW0⟩ : ∃ W0, w.alloc (.cells #[.int .i64 0, .int .i64 0, .string ⟨#[]⟩, .slice none 0 0] 48) = W0 := ⟨_, rfl⟩
    have hz0 : W0.heap.size = w.heap.size + 1 := by rw [← hW0]; simp
    rw [hW0] at hb1 hR0 hF0
    have HW0 := hide hW0; clear hW0
    obtain ⟨P, hP⟩ : ∃ P, S.nodes[par S.forms (c x)]? = some P := ⟨_, List.getElem?_eq_getElem (hi.forms x hx).lt⟩
    have HFm := hide (form_any hF0 hi.inv.forest x hx P hP)
    have H0 := hide h; have HR0 := hide hR0; have HP := hide hP; have HM := hide hmap; have Hb1 := hide hb1
    have HFd := hide (fun W (hW : St W base L S) => find_any hW hi.inv.forest x hx)
    clear ih h hmap hb1 hR0 hF0 hi
    have fl := nd_args
    go_enter Try.func42, Try.ntmps42
    go_wp2_with fail
    rw [HW0.out]
    refine HFm.out.mono ?_
    rintro e W1 ⟨ax, hax, rfl, hb2⟩
    go_upto_region 2 with fail
    obtain ⟨W2, hW2⟩ : ∃ W2, W1.alloc (.cells #[.int .i64 P.kind, .string P.name, .slice ax.1 P.args.length ax.2] 73) = W2 := ⟨_, rfl⟩
    have hB7 : W2.heap[W1.heap.size]? = some (.cells #[.int .i64 P.kind, .string P.name, .slice ax.1 P.args.length ax.2] 73 (0, 0)) := by rw [← hW2]; exact heap_alloc_new W1 _
    have hb12 : Below W1.heap.size W1 W2 := by rw [← hW2]; exact (Below.refl _ _).alloc (Nat.le_refl _) _
    have hbw : Below w.heap.size w W2 := Hb1.out.trans ((hb2.trans (hb12.mono hb2.size)).mono Hb1.out.size)
    have hR2 : W2.heap[w.heap.size]? = _ := (hb12.block _ (by have := hb2.size; omega)).trans ((hb2.block _ (by omega)).trans HR0.out)
    have hz2 : w.heap.size + 1 ≤ W1.heap.size := by have := hb2.size; omega
    have hz3 : W1.heap.size < W2.heap.size := (Array.getElem?_eq_some_iff.1 hB7).1
    simp only [hW2]
    clear hW2
    obtain ⟨y0, y1, y2⟩ := three_cells hB7
    obtain ⟨r0, r1, r2, r3, rf⟩ := four_cells hR2
    have z0 := rf 0; have z1 := rf 1; have z2 := rf 2; have z3 := rf 3
    have Hax := hide hax; have Hbw := hide hbw
    have HS2 := hide (H0.out.later hbw)
    have HM2 := hide (HM.out.keep (hbw.block _ HM.out.lt))
    have HR2 := hide hR2; have HB7 := hide hB7
    clear hax hbw hb12 hb2 hB7 hR2 rf HFm HR0 Hb1
    cases hS with
    | @var _ _ _ P' hP' hk hr =>
      obtain rfl : P = P' := by have := HP.out; rw [this] at hP'; injection hP'
      cases hr
      have k16 : (P.kind == 1) = true := by simpa using hk
      clear hP'
      go_wp2_with (first | (go_at_call 59; refine (HFd.out _ HS2.out).mono ?_; rintro e w' ⟨rfl, rfl⟩) | (at_lookup; refine wpList_map_get rfl (.tmp 17) (.tmp 20) rfl bm nm num rfl HM2.out (c x) rfl (by omega) ?_))
      obtain ⟨c0, c1, c2, c3⟩ := set4_cells W2 w.heap.size (.int .i64 1) (.int .i64 (num (c x) : Int)) (.string ⟨#[]⟩) (.slice none 0 0) _ _ _ _ r0 r1 r2 r3
      have hbf : Hid (Below w.heap.size w (set4 W2 w.heap.size (.int .i64 1) (.int .i64 (num (c x) : Int)) (.string ⟨#[]⟩) (.slice none 0 0))) := hide (set4_below Hbw.out (Nat.le_refl _) _ _ _ _)
      change bodyPost Try.prog Try.f42 _ _ _ (set4 W2 w.heap.size (.int .i64 1) (.int .i64 (num (c x) : Int)) (.string ⟨#[]⟩) (.slice none 0 0))
      clear r0 r1 r2 r3 z0 z1 z2 z3 y0 y1 y2
      generalize set4 W2 w.heap.size (.int .i64 1) (.int .i64 (num (c x) : Int)) (.string ⟨#[]⟩) (.slice none 0 0) = W9 at *
      exact bodyPost_ret (v := .agg #[.int .i64 1, .int .i64 (num (c x) : Int), .string ⟨#[]⟩, .slice none 0 0]) (by simp [results, Try.results42, go_sem, c0, c1, c2, c3]) rfl ⟨1, (num (c x) : Int), ⟨#[]⟩, none, 0, 0, rfl, ⟨none, 0, [], rfl, rfl⟩, hbf.out⟩
    | @con _ _ A _ P' hP' hk ha hr =>
      obtain rfl : P = P' := by have := HP.out; rw [this] at hP'; injection hP'
      cases hr
      have k16 : (P.kind == 1) = false := by simpa using hk
      have hPl := H0.out.few _ _ HP.out
      have hAk : A.cnt ≤ k := by simp only [Fo.cnt] at hT; omega
      have HAl := hide ha.len
      have Ha := hide ha
      obtain ⟨i4, ki, kz0, kz1, kz2⟩ := info_parts tyInfo
      have Ki := hide ki; have Kz0 := hide kz0; have Kz1 := hide kz1; have Kz2 := hide kz2
      have HT0 : Hid (TRel W2 S c num P.args A (.slice none 0 0) 0 W2) := hide ⟨Below.refl _ _, .nil, A, [], rfl, .nil, by simpa using ha, World.ownsRow_nil _ _ _ _, rfl⟩
      clear hP' hk ki kz0 kz1 kz2 ha hT
      go_wp2
      go_loopw [8, 26] (fun va vj wr => ∃ j : Nat, vj = .int .i64 j ∧ j ≤ P.args.length ∧ TRel W2 S c num P.args A va j wr) (fun _ vj _ => P.args.length - (intOf vj).toNat)
      case atStart => exact ⟨0, rfl, by omega, HT0.out⟩
      case round =>
        obtain ⟨j, rfl, hj, R⟩ := hrel
        clear HT0 r0 r1 r2 r3 z0 z1 z2 z3 y0 y1 y2
        by_cases hlt : j < P.args.length
        · have hst := HS2.out.later R.below
          obtain ⟨b1, o1, hb1, -, c1⟩ := (hst.args _ P ax HP.out Hax.out).1.at_ j (by simpa [cast] using hlt)
          simp only [cast, List.getElem_map] at c1
          obtain ⟨y, hy⟩ : ∃ y, P.args[j] = y := ⟨_, rfl⟩
          rw [hy] at c1
          have hyn : y < S.nodes.length := Hi.out.inv.wf.arg_lt HP.out (k := j) (by rw [List.getElem?_eq_getElem hlt, hy])
          obtain ⟨Aj, Rj, cs, hsp, hs1, hs2, hown, hfo⟩ := R.parts
          rw [List.drop_eq_getElem_cons hlt, hy, show y :: P.args.drop (j + 1) = [y] ++ P.args.drop (j + 1) from rfl] at hs2
          obtain ⟨B, R', hRR, hsB, hsR⟩ := hs2.split
          have hBc : B.cnt ≤ k := by
            have : A.cnt = Aj.cnt + (B.cnt + R'.cnt) := by rw [hsp, hRR, Fo.cnt_app, Fo.cnt_app]
            omega
          have HC := hide (IH.out y B wr hBc hst (HM2.out.keep (R.below.block _ HM2.out.lt)) hyn hsB)
          have Htake : Hid (P.args.take (j + 1) = P.args.take j ++ [y]) := hide (by rw [List.take_succ_eq_append_getElem hlt, hy])
          have HR := hide R; have Hsp := hide hsp; have Hs1 := hide hs1; have HsB := hide hsB; have HsR := hide hsR; have Hown := hide hown; have Hfo := hide hfo; have HRR := hide hRR
          have HB1 := hide hb1
          simp only [hb1]
          clear R hsp hs1 hs2 hsB hsR hown hfo hRR hst hy hb1
          go_wp2_with fail
          refine HC.out.mono ?_
          rintro e W3 ⟨kd, nu, sn, A5, n5, c5, rfl, hfo3, hb3⟩
          have own3 := own_keep Hown.out (fun b hb => hb3.block b (Hown.out.lt b hb).2)
          have hbW : Below W2.heap.size W2 W3 := HR.out.below.trans (hb3.mono HR.out.below.size)
          have O4 := hide (own3.alloc (.cells #[.int .i64 kd, .int .i64 nu, .string sn, .slice A5 n5 c5] 48))
          have N4 := hide (four_new W3 (.int .i64 kd) (.int .i64 nu) (.string sn) (.slice A5 n5 c5) 48)
          have E4 : Hid (∀ u ∈ [Value.int .i64 kd, .int .i64 nu, .string sn, .slice A5 n5 c5], u.oneCell' = true) := hide (by simp [Value.oneCell'])
          have Hb4 := hide (hbW.alloc hbW.size (.cells #[.int .i64 kd, .int .i64 nu, .string sn, .slice A5 n5 c5] 48))
          have hz4 : W2.heap.size ≤ W3.heap.size := hbW.size
          have Hb3 := hide hb3; have Hfo3 := hide hfo3
          have hw2 : W2.heap.size ≤ wr.heap.size := HR.out.below.size
          clear own3 hbW hb3 hfo3 HC
          go_wp2_with (at_builtin; refine wpList_append_own_at _ rfl (.tmp 30) (.tmp 35) 34 rfl W2.heap.size 48 i4 (.agg #[.int .i64 0, .int .i64 0, .string ByteArray.empty, .slice none 0 0]) 4 56 Try.underlying34 Ki.out Kz0.out Kz1.out Kz2.out rfl (by decide) u8 j cs rfl O4.out ⟨W3.heap.size, 0, none⟩ 1 1 [.int .i64 kd, .int .i64 nu, .string sn, .slice A5 n5 c5] rfl rfl N4.out E4.out (by simp only [maxLen]; omega) (by omega) (by simp; omega) ?_; intro v6 W6 own6 grow6 nil6 at6; clear nil6)
          go_roundw
          case measure => simp [intOf]; omega
          case rel =>
            refine ⟨j + 1, by go_num, by omega, Hb4.out.grown grow6 (by simp; omega) (fun b e1 => (O4.out.lt b e1).1), Aj.app B, R', cs ++ [.int .i64 kd, .int .i64 nu, .string sn, .slice A5 n5 c5], ?_, ?_, HsR.out, own6, ?_⟩
            · rw [Hsp.out, HRR.out, Fo.app_assoc]
            · rw [Htake.out]; exact Hs1.out.app HsB.out
            · have hs6 := grow6.size
              rw [World.size_alloc] at hs6
              have hsz3 := Hb3.out.size
              have hsz4 : (W3.alloc (.cells #[.int .i64 kd, .int .i64 nu, .string sn, .slice A5 n5 c5] 48)).heap.size = W3.heap.size + 1 := World.size_alloc _ _
              have hcell : ∀ p : Addr, p.block < W3.heap.size → u8.ownBlock ≠ some p.block → W6.cell? p = W3.cell? p := fun p hp hne => (grow6.cell_far p (by rw [hsz4]; omega) (fun e1 => hne e1.symm)).trans (World.cell?_alloc_lt W3 _ p hp)
              have hold : ∀ b, u8.ownBlock = some b → b < wr.heap.size := fun b hb => (Hown.out.lt b hb).2
              have hv6 : ∀ b, b < W3.heap.size → u8.ownBlock ≠ some b → v6.ownBlock ≠ some b := by
                intro b hb hne e1
                rcases at6 with e2 | e2
                · rw [e2] at e1; exact hne e1
                · rw [e2, hsz4] at e1; injection e1 with e1; omega
              rw [Fo.mapv_app]
              refine FoCells.app _ (FoCells.keep _ Hfo3.out ?_ ?_) (FoCells.keep _ Hfo.out ?_ ?_)
              · intro b hb
                exact ⟨by omega, by omega, hv6 b hb.2 (fun e1 => by have := hold b e1; omega)⟩
              · intro p hp
                exact hcell p hp.2 (fun e1 => by have := hold _ e1; omega)
              · intro b hb
                exact ⟨hb.1, by omega, hv6 b (by omega) hb.2.2⟩
              · intro p hp
                exact (hcell p (by omega) hp.2.2).trans (Hb3.out.cell hp.2.1)
        · obtain rfl : j = P.args.length := by omega
          obtain ⟨Aj, Rj, cs, hsp, hs1, hs2, hown, hfo⟩ := R.parts
          rw [List.drop_length] at hs2
          cases hs2
          rw [Fo.app_nil] at hsp
          subst hsp
          have hw2 := R.below.size
          obtain ⟨q0, q1, -⟩ := three_cells ((R.below.block _ hz3).trans HB7.out)
          obtain ⟨r0, r1, r2, r3, rf⟩ := four_cells ((R.below.block _ (by omega)).trans HR2.out)
          have z0 := rf 0; have z1 := rf 1; have z2 := rf 2; have z3 := rf 3
          have hownB : ∀ b, u8.ownBlock = some b → W2.heap.size ≤ b ∧ b < wr.heap.size := fun b hb => hown.lt b hb
          obtain ⟨A6, cap6, hv8, -, -⟩ := own_len hown
          have HR := hide R; have Hown := hide hown; have Hfo := hide hfo; have HownB := hide hownB
          subst hv8
          clear R hown hfo rf hownB hs1
          go_wp2
          obtain ⟨c0, c1, c2, c3⟩ := set4_cells wr w.heap.size (.int .i64 P.kind) (.int .i64 0) (.string P.name) (.slice A6 P.args.length cap6) _ _ _ _ r0 r1 r2 r3
          have hbf : Hid (Below w.heap.size w (set4 wr w.heap.size (.int .i64 P.kind) (.int .i64 0) (.string P.name) (.slice A6 P.args.length cap6))) := hide (set4_below (Hbw.out.trans (HR.out.below.mono Hbw.out.size)) (Nat.le_refl _) _ _ _ _)
          have hcell : ∀ p : Addr, p.block ≠ w.heap.size → (set4 wr w.heap.size (.int .i64 P.kind) (.int .i64 0) (.string P.name) (.slice A6 P.args.length cap6)).cell? p = wr.cell? p := fun p hp => World.cell?_of_block (set4_other wr _ _ _ _ _ p.block hp)
          have hsz := set4_size wr w.heap.size (.int .i64 P.kind) (.int .i64 0) (.string P.name) (.slice A6 P.args.length cap6)
          have hown9 : (set4 wr w.heap.size (.int .i64 P.kind) (.int .i64 0) (.string P.name) (.slice A6 P.args.length cap6)).ownsRow W2.heap.size 48 4 (.slice A6 P.args.length cap6) (A.mapv num).len cs := by
            rw [Fo.len_mapv, HAl.out]
            exact own_keep Hown.out (fun b hb => set4_other wr _ _ _ _ _ b (by have := (HownB.out b hb).1; omega))
          have hfo9 : FoCells (set4 wr w.heap.size (.int .i64 P.kind) (.int .i64 0) (.string P.name) (.slice A6 P.args.length cap6)) (fun b => w.heap.size ≤ b ∧ b < (set4 wr w.heap.size (.int .i64 P.kind) (.int .i64 0) (.string P.name) (.slice A6 P.args.length cap6)).heap.size) (A.mapv num) cs :=
            FoCells.keep _ Hfo.out (fun b hb => ⟨by omega, by rw [hsz]; exact hb.2.1⟩) (fun p hp => hcell p (by omega))
          obtain ⟨A7, c7, he7, hat7⟩ := fo_of_own hown9 hfo9 (fun b hb => by have := HownB.out b hb; rw [hsz]; omega)
          have HAt : Hid (FoAt (set4 wr w.heap.size (.int .i64 P.kind) (.int .i64 0) (.string P.name) (.slice A6 P.args.length cap6)) (fun b => w.heap.size ≤ b ∧ b < (set4 wr w.heap.size (.int .i64 P.kind) (.int .i64 0) (.string P.name) (.slice A6 P.args.length cap6)).heap.size) A6 (A.mapv num)) := by
            obtain rfl : A6 = A7 := by injection he7
            exact hide hat7
          clear he7 hat7 hown9 hfo9 hcell hsz
          change bodyPost Try.prog Try.f42 _ _ _ (set4 wr w.heap.size (.int .i64 P.kind) (.int .i64 0) (.string P.name) (.slice A6 P.args.length cap6))
          clear r0 r1 r2 r3 z0 z1 z2 z3 q0 q1
          generalize set4 wr w.heap.size (.int .i64 P.kind) (.int .i64 0) (.string P.name) (.slice A6 P.args.length cap6) = W9 at *
          refine bodyPost_ret (v := .agg #[.int .i64 P.kind, .int .i64 0, .string P.name, .slice A6 P.args.length cap6]) (by simp [results, Try.results42, go_sem, c0, c1, c2, c3]) rfl ⟨P.kind, 0, P.name, A6, P.args.length, cap6, rfl, ⟨A6, cap6, [], by rw [Fo.len_mapv, HAl.out], ?_, rfl⟩, hbf.out⟩
          rcases HAt.out with h1 | ⟨b, off, cs', e1, h2, h3, h4⟩
          · exact .inl h1
          · exact .inr ⟨b, off, cs', e1, h2, h3, h4⟩
end Go.Proofs.Ytafpbdmggnfdnaa
