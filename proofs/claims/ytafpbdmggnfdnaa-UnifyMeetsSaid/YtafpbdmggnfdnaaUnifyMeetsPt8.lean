/- Part 8 of the proof of UnifyMeets: what follows was kept as these texts: Told, TypesOf, TypesNo, PlainAdd. -/
import Derived.Test.YtafpbdmggnfdnaaUnifyMeetsPt1
import Derived.Test.YtafpbdmggnfdnaaUnifyMeetsPt2
import Derived.Test.YtafpbdmggnfdnaaUnifyMeetsPt3
import Derived.Test.YtafpbdmggnfdnaaUnifyMeetsPt4
import Derived.Test.YtafpbdmggnfdnaaUnifyMeetsPt5
import Derived.Test.YtafpbdmggnfdnaaUnifyMeetsPt6
import Derived.Test.YtafpbdmggnfdnaaUnifyMeetsPt7
/- The program's store: told. -/
namespace Go.Proofs.Ytafpbdmggnfdnaa
open Go.RowKit Go.Maps
set_option linter.unusedVariables false

/-- A value of api.Type that is this tree; all behind it is new. -/
def ToldPost (w : World) (F : Fo) (e : Ending) (w' : World) : Prop :=
  ∃ (kd nu : Int) (s : ByteArray) (A : Option Addr) (n c : Nat), e = .returned (.agg #[.int .i64 kd, .int .i64 nu, .string s, .slice A n c]) ∧ FoCells w' (fun k => w.heap.size ≤ k ∧ k < w'.heap.size) F [.int .i64 kd, .int .i64 nu, .string s, .slice A n c] ∧ Below w.heap.size w w'
theorem four_cells {W : World} {g : Nat} {u0 u1 u2 u3 : Value} {t : TypeId} (h : W.heap[g]? = some (.cells #[u0, u1, u2, u3] t (0, 0))) :
    W.cell? ⟨g, 0, none⟩ = some u0 ∧ W.cell? ⟨g, 1, none⟩ = some u1 ∧ W.cell? ⟨g, 2, none⟩ = some u2 ∧ W.cell? ⟨g, 3, none⟩ = some u3 ∧ ∀ k, W.frozen? ⟨g, k, none⟩ = false := by
  refine ⟨?_, ?_, ?_, ?_, fun k => by simp [World.frozen?, h]⟩ <;> (rw [cell_of_row _ _ _ _ _ _ h]; rfl)
theorem three_cells {W : World} {g : Nat} {u0 u1 u2 : Value} {t : TypeId} (h : W.heap[g]? = some (.cells #[u0, u1, u2] t (0, 0))) :
    W.cell? ⟨g, 0, none⟩ = some u0 ∧ W.cell? ⟨g, 1, none⟩ = some u1 ∧ W.cell? ⟨g, 2, none⟩ = some u2 := by
  refine ⟨?_, ?_, ?_⟩ <;> (rw [cell_of_row _ _ _ _ _ _ h]; rfl)
theorem set4_below {w W : World} {B g : Nat} (h : Below B w W) (hg : B ≤ g) (u0 u1 u2 u3 : Value) : Below B w (set4 W g u0 u1 u2 u3) :=
  (((h.setCell (p := ⟨g, 0, none⟩) hg _).setCell (p := ⟨g, 1, none⟩) hg _).setCell (p := ⟨g, 2, none⟩) hg _).setCell (p := ⟨g, 3, none⟩) hg _
theorem set4_size (W : World) (g : Nat) (u0 u1 u2 u3 : Value) : (set4 W g u0 u1 u2 u3).heap.size = W.heap.size := by simp [set4, World.setCell]
theorem set4_other (W : World) (g : Nat) (u0 u1 u2 u3 : Value) (k : Nat) (h : k ≠ g) : (set4 W g u0 u1 u2 u3).heap[k]? = W.heap[k]? := by
  unfold set4
  rw [Below.heap_setCell _ _ _ k h, Below.heap_setCell _ _ _ k h, Below.heap_setCell _ _ _ k h, Below.heap_setCell _ _ _ k h]

/-- At the head of a round over the arguments. -/
structure TRel (W2 : World) (S : PS) (c num : Nat → Nat) (args : List Nat) (A : Fo) (va : Value) (j : Nat) (wr : World) : Prop where
  below : Below W2.heap.size W2 wr
  parts : ∃ Aj Rj cs, A = Aj.app Rj ∧ Stands S.nodes c (par S.forms) (args.take j) Aj ∧ Stands S.nodes c (par S.forms) (args.drop j) Rj ∧ wr.ownsRow W2.heap.size 48 4 va j cs ∧
    FoCells wr (fun b => W2.heap.size ≤ b ∧ b < wr.heap.size ∧ va.ownBlock ≠ some b) (Aj.mapv num) cs
theorem Fo.len_mapv (f : Nat → Nat) (a : Fo) : (a.mapv f).len = a.len := by
  induction a with
  | nil => rfl
  | var n r ih => simp [Fo.mapv, Fo.len, ih]
  | con k m x r _ ih => simp [Fo.mapv, Fo.len, ih]
theorem Fo.app_assoc (a b c : Fo) : a.app (b.app c) = (a.app b).app c := by
  induction a with
  | nil => rfl
  | var n r ih => simp [Fo.app, ih]
  | con k m x r _ ih => simp [Fo.app, ih]
theorem Fo.app_nil (a : Fo) : a.app .nil = a := by
  induction a with
  | nil => rfl
  | var n r ih => simp [Fo.app, ih]
  | con k m x r _ ih => simp [Fo.app, ih]
set_option maxRecDepth 100000 in
set_option maxHeartbeats 4000000 in
theorem told_any {base : Nat} {L : Lay} {S : PS} {c d : Nat → Nat} (hi : Ok S c d) (bm nm : Nat) (num : Nat → Nat) (k : Nat) : ∀ (x : Nat) (T : Fo) (w : World), T.cnt ≤ k → St w base L S → MapIs w bm nm num → x < S.nodes.length → Stands S.nodes c (par S.forms) [x] T →
    Calls Try.prog 42 #[.pointer (some ⟨L.g, 0, none⟩), .int .i64 (x : Int), .map (some bm)] w (ToldPost w (T.mapv num)) := by
  induction k with
  | zero =>
    intro x T w hT _ _ _ hS
    cases hS with
    | var _ _ _ => simp [Fo.cnt] at hT
    | con _ _ _ _ => simp [Fo.cnt] at hT
  | succ k ih =>
    intro x T w hT h hmap hx hS
    have IH := hide ih
    have hm := h.many
    have Hi := hide hi
    have hb1 : Below w.heap.size w (w.alloc (.cells #[.int .i64 0, .int .i64 0, .string ⟨#[]⟩, .slice none 0 0] 48)) := (Below.refl _ _).alloc (Nat.le_refl _) _
    have hR0 := heap_alloc_new w (.cells #[.int .i64 0, .int .i64 0, .string ⟨#[]⟩, .slice none 0 0] 48)
    have hF0 := h.later hb1
    have hrx := hi.inv.root x hx
    obtain ⟨W0, hW0⟩ : ∃ W0, w.alloc (.cells #[.int .i64 0, .int .i64 0, .string ⟨#[]⟩, .slice none 0 0] 48) = W0 := ⟨_, rfl⟩
    have hz0 : W0.heap.size = w.heap.size + 1 := by rw [← hW0]; simp
    rw [hW0] at hb1 hR0 hF0
    have HW0 := hide hW0; clear hW0
    obtain ⟨P, hP⟩ : ∃ P, S.nodes[par S.forms (c x)]? = some P := ⟨_, List.getElem?_eq_getElem (hi.forms x hx).lt⟩
    have HFm := hide (form_any hF0 hi.inv.forest x hx P hP)
    have H0 := hide h; have HR0 := hide hR0; have HP := hide hP; have HM := hide hmap; have Hb1 := hide hb1
    have HFd := hide (fun W (hW : St W base L S) => find_any hW hi.inv.forest x hx)
    clear ih h hmap hb1 hR0 hF0 hi
    have fl := nd_args
    go_enter Try.func42, Try.ntmps42
    go_wp2_with fail
    rw [HW0.out]
    refine HFm.out.mono ?_
    rintro e W1 ⟨ax, hax, rfl, hb2⟩
    go_upto_region 2 with fail
    obtain ⟨W2, hW2⟩ : ∃ W2, W1.alloc (.cells #[.int .i64 P.kind, .string P.name, .slice ax.1 P.args.length ax.2] 73) = W2 := ⟨_, rfl⟩
    have hB7 : W2.heap[W1.heap.size]? = some (.cells #[.int .i64 P.kind, .string P.name, .slice ax.1 P.args.length ax.2] 73 (0, 0)) := by rw [← hW2]; exact heap_alloc_new W1 _
    have hb12 : Below W1.heap.size W1 W2 := by rw [← hW2]; exact (Below.refl _ _).alloc (Nat.le_refl _) _
    have hbw : Below w.heap.size w W2 := Hb1.out.trans ((hb2.trans (hb12.mono hb2.size)).mono Hb1.out.size)
    have hR2 : W2.heap[w.heap.size]? = _ := (hb12.block _ (by have := hb2.size; omega)).trans ((hb2.block _ (by omega)).trans HR0.out)
    have hz2 : w.heap.size + 1 ≤ W1.heap.size := by have := hb2.size; omega
    have hz3 : W1.heap.size < W2.heap.size := (Array.getElem?_eq_some_iff.1 hB7).1
    simp only [hW2]
    clear hW2
    obtain ⟨y0, y1, y2⟩ := three_cells hB7
    obtain ⟨r0, r1, r2, r3, rf⟩ := four_cells hR2
    have z0 := rf 0; have z1 := rf 1; have z2 := rf 2; have z3 := rf 3
    have Hax := hide hax; have Hbw := hide hbw
    have HS2 := hide (H0.out.later hbw)
    have HM2 := hide (HM.out.keep (hbw.block _ HM.out.lt))
    have HR2 := hide hR2; have HB7 := hide hB7
    clear hax hbw hb12 hb2 hB7 hR2 rf HFm HR0 Hb1
    cases hS with
    | @var _ _ _ P' hP' hk hr =>
      obtain rfl : P = P' := by have := HP.out; rw [this] at hP'; injection hP'
      cases hr
      have k16 : (P.kind == 1) = true := by simpa using hk
      clear hP'
      go_wp2_with (first | (go_at_call 59; refine (HFd.out _ HS2.out).mono ?_; rintro e w' ⟨rfl, rfl⟩) | (at_lookup; refine wpList_map_get rfl (.tmp 17) (.tmp 20) rfl bm nm num rfl HM2.out (c x) rfl (by omega) ?_))
      obtain ⟨c0, c1, c2, c3⟩ := set4_cells W2 w.heap.size (.int .i64 1) (.int .i64 (num (c x) : Int)) (.string ⟨#[]⟩) (.slice none 0 0) _ _ _ _ r0 r1 r2 r3
      have hbf : Hid (Below w.heap.size w (set4 W2 w.heap.size (.int .i64 1) (.int .i64 (num (c x) : Int)) (.string ⟨#[]⟩) (.slice none 0 0))) := hide (set4_below Hbw.out (Nat.le_refl _) _ _ _ _)
      change bodyPost Try.prog Try.f42 _ _ _ (set4 W2 w.heap.size (.int .i64 1) (.int .i64 (num (c x) : Int)) (.string ⟨#[]⟩) (.slice none 0 0))
      clear r0 r1 r2 r3 z0 z1 z2 z3 y0 y1 y2
      generalize set4 W2 w.heap.size (.int .i64 1) (.int .i64 (num (c x) : Int)) (.string ⟨#[]⟩) (.slice none 0 0) = W9 at *
      exact bodyPost_ret (v := .agg #[.int .i64 1, .int .i64 (num (c x) : Int), .string ⟨#[]⟩, .slice none 0 0]) (by simp [results, Try.results42, go_sem, c0, c1, c2, c3]) rfl ⟨1, (num (c x) : Int), ⟨#[]⟩, none, 0, 0, rfl, ⟨none, 0, [], rfl, rfl⟩, hbf.out⟩
    | @con _ _ A _ P' hP' hk ha hr =>
      obtain rfl : P = P' := by have := HP.out; rw [this] at hP'; injection hP'
      cases hr
      have k16 : (P.kind == 1) = false := by simpa using hk
      have hPl := H0.out.few _ _ HP.out
      have hAk : A.cnt ≤ k := by simp only [Fo.cnt] at hT; omega
      have HAl := hide ha.len
      have Ha := hide ha
      obtain ⟨i4, ki, kz0, kz1, kz2⟩ := info_parts tyInfo
      have Ki := hide ki; have Kz0 := hide kz0; have Kz1 := hide kz1; have Kz2 := hide kz2
      have HT0 : Hid (TRel W2 S c num P.args A (.slice none 0 0) 0 W2) := hide ⟨Below.refl _ _, .nil, A, [], rfl, .nil, by simpa using ha, World.ownsRow_nil _ _ _ _, rfl⟩
      clear hP' hk ki kz0 kz1 kz2 ha hT
      go_wp2
      go_loopw [8, 26] (fun va vj wr => ∃ j : Nat, vj = .int .i64 j ∧ j ≤ P.args.length ∧ TRel W2 S c num P.args A va j wr) (fun _ vj _ => P.args.length - (intOf vj).toNat)
      case atStart => exact ⟨0, rfl, by omega, HT0.out⟩
      case round =>
        obtain ⟨j, rfl, hj, R⟩ := hrel
        clear HT0 r0 r1 r2 r3 z0 z1 z2 z3 y0 y1 y2
        by_cases hlt : j < P.args.length
        · have hst := HS2.out.later R.below
          obtain ⟨b1, o1, hb1, -, c1⟩ := (hst.args _ P ax HP.out Hax.out).1.at_ j (by simpa [cast] using hlt)
          simp only [cast, List.getElem_map] at c1
          obtain ⟨y, hy⟩ : ∃ y, P.args[j] = y := ⟨_, rfl⟩
          rw [hy] at c1
          have hyn : y < S.nodes.length := Hi.out.inv.wf.arg_lt HP.out (k := j) (by rw [List.getElem?_eq_getElem hlt, hy])
          obtain ⟨Aj, Rj, cs, hsp, hs1, hs2, hown, hfo⟩ := R.parts
          rw [List.drop_eq_getElem_cons hlt, hy, show y :: P.args.drop (j + 1) = [y] ++ P.args.drop (j + 1) from rfl] at hs2
          obtain ⟨B, R', hRR, hsB, hsR⟩ := hs2.split
          have hBc : B.cnt ≤ k := by
            have : A.cnt = Aj.cnt + (B.cnt + R'.cnt) := by rw [hsp, hRR, Fo.cnt_app, Fo.cnt_app]
            omega
          have HC := hide (IH.out y B wr hBc hst (HM2.out.keep (R.below.block _ HM2.out.lt)) hyn hsB)
          have Htake : Hid (P.args.take (j + 1) = P.args.take j ++ [y]) := hide (by rw [List.take_succ_eq_append_getElem hlt, hy])
          have HR := hide R; have Hsp := hide hsp; have Hs1 := hide hs1; have HsB := hide hsB; have HsR := hide hsR; have Hown := hide hown; have Hfo := hide hfo; have HRR := hide hRR
          have HB1 := hide hb1
          simp only [hb1]
          clear R hsp hs1 hs2 hsB hsR hown hfo hRR hst hy hb1
          go_wp2_with fail
          refine HC.out.mono ?_
          rintro e W3 ⟨kd, nu, sn, A5, n5, c5, rfl, hfo3, hb3⟩
          have own3 := own_keep Hown.out (fun b hb => hb3.block b (Hown.out.lt b hb).2)
          have hbW : Below W2.heap.size W2 W3 := HR.out.below.trans (hb3.mono HR.out.below.size)
          have O4 := hide (own3.alloc (.cells #[.int .i64 kd, .int .i64 nu, .string sn, .slice A5 n5 c5] 48))
          have N4 := hide (four_new W3 (.int .i64 kd) (.int .i64 nu) (.string sn) (.slice A5 n5 c5) 48)
          have E4 : Hid (∀ u ∈ [Value.int .i64 kd, .int .i64 nu, .string sn, .slice A5 n5 c5], u.oneCell' = true) := hide (by simp [Value.oneCell'])
          have Hb4 := hide (hbW.alloc hbW.size (.cells #[.int .i64 kd, .int .i64 nu, .string sn, .slice A5 n5 c5] 48))
          have hz4 : W2.heap.size ≤ W3.heap.size := hbW.size
          have Hb3 := hide hb3; have Hfo3 := hide hfo3
          have hw2 : W2.heap.size ≤ wr.heap.size := HR.out.below.size
          clear own3 hbW hb3 hfo3 HC
          go_wp2_with (at_builtin; refine wpList_append_own_at _ rfl (.tmp 30) (.tmp 35) 34 rfl W2.heap.size 48 i4 (.agg #[.int .i64 0, .int .i64 0, .string ByteArray.empty, .slice none 0 0]) 4 56 Try.underlying34 Ki.out Kz0.out Kz1.out Kz2.out rfl (by decide) u8 j cs rfl O4.out ⟨W3.heap.size, 0, none⟩ 1 1 [.int .i64 kd, .int .i64 nu, .string sn, .slice A5 n5 c5] rfl rfl N4.out E4.out (by simp only [maxLen]; omega) (by omega) (by simp; omega) ?_; intro v6 W6 own6 grow6 nil6 at6; clear nil6)
          go_roundw
          case measure => simp [intOf]; omega
          case rel =>
            refine ⟨j + 1, by go_num, by omega, Hb4.out.grown grow6 (by simp; omega) (fun b e1 => (O4.out.lt b e1).1), Aj.app B, R', cs ++ [.int .i64 kd, .int .i64 nu, .string sn, .slice A5 n5 c5], ?_, ?_, HsR.out, own6, ?_⟩
            · rw [Hsp.out, HRR.out, Fo.app_assoc]
            · rw [Htake.out]; exact Hs1.out.app HsB.out
            · have hs6 := grow6.size
              rw [World.size_alloc] at hs6
              have hsz3 := Hb3.out.size
              have hsz4 : (W3.alloc (.cells #[.int .i64 kd, .int .i64 nu, .string sn, .slice A5 n5 c5] 48)).heap.size = W3.heap.size + 1 := World.size_alloc _ _
              have hcell : ∀ p : Addr, p.block < W3.heap.size → u8.ownBlock ≠ some p.block → W6.cell? p = W3.cell? p := fun p hp hne => (grow6.cell_far p (by rw [hsz4]; omega) (fun e1 => hne e1.symm)).trans (World.cell?_alloc_lt W3 _ p hp)
              have hold : ∀ b, u8.ownBlock = some b → b < wr.heap.size := fun b hb => (Hown.out.lt b hb).2
              have hv6 : ∀ b, b < W3.heap.size → u8.ownBlock ≠ some b → v6.ownBlock ≠ some b := by
                intro b hb hne e1
                rcases at6 with e2 | e2
                · rw [e2] at e1; exact hne e1
                · rw [e2, hsz4] at e1; injection e1 with e1; omega
              rw [Fo.mapv_app]
              refine FoCells.app _ (FoCells.keep _ Hfo3.out ?_ ?_) (FoCells.keep _ Hfo.out ?_ ?_)
              · intro b hb
                exact ⟨by omega, by omega, hv6 b hb.2 (fun e1 => by have := hold b e1; omega)⟩
              · intro p hp
                exact hcell p hp.2 (fun e1 => by have := hold _ e1; omega)
              · intro b hb
                exact ⟨hb.1, by omega, hv6 b (by omega) hb.2.2⟩
              · intro p hp
                exact (hcell p (by omega) hp.2.2).trans (Hb3.out.cell hp.2.1)
        · obtain rfl : j = P.args.length := by omega
          obtain ⟨Aj, Rj, cs, hsp, hs1, hs2, hown, hfo⟩ := R.parts
          rw [List.drop_length] at hs2
          cases hs2
          rw [Fo.app_nil] at hsp
          subst hsp
          have hw2 := R.below.size
          obtain ⟨q0, q1, -⟩ := three_cells ((R.below.block _ hz3).trans HB7.out)
          obtain ⟨r0, r1, r2, r3, rf⟩ := four_cells ((R.below.block _ (by omega)).trans HR2.out)
          have z0 := rf 0; have z1 := rf 1; have z2 := rf 2; have z3 := rf 3
          have hownB : ∀ b, u8.ownBlock = some b → W2.heap.size ≤ b ∧ b < wr.heap.size := fun b hb => hown.lt b hb
          obtain ⟨A6, cap6, hv8, -, -⟩ := own_len hown
          have HR := hide R; have Hown := hide hown; have Hfo := hide hfo; have HownB := hide hownB
          subst hv8
          clear R hown hfo rf hownB hs1
          go_wp2
          obtain ⟨c0, c1, c2, c3⟩ := set4_cells wr w.heap.size (.int .i64 P.kind) (.int .i64 0) (.string P.name) (.slice A6 P.args.length cap6) _ _ _ _ r0 r1 r2 r3
          have hbf : Hid (Below w.heap.size w (set4 wr w.heap.size (.int .i64 P.kind) (.int .i64 0) (.string P.name) (.slice A6 P.args.length cap6))) := hide (set4_below (Hbw.out.trans (HR.out.below.mono Hbw.out.size)) (Nat.le_refl _) _ _ _ _)
          have hcell : ∀ p : Addr, p.block ≠ w.heap.size → (set4 wr w.heap.size (.int .i64 P.kind) (.int .i64 0) (.string P.name) (.slice A6 P.args.length cap6)).cell? p = wr.cell? p := fun p hp => World.cell?_of_block (set4_other wr _ _ _ _ _ p.block hp)
          have hsz := set4_size wr w.heap.size (.int .i64 P.kind) (.int .i64 0) (.string P.name) (.slice A6 P.args.length cap6)
          have hown9 : (set4 wr w.heap.size (.int .i64 P.kind) (.int .i64 0) (.string P.name) (.slice A6 P.args.length cap6)).ownsRow W2.heap.size 48 4 (.slice A6 P.args.length cap6) (A.mapv num).len cs := by
            rw [Fo.len_mapv, HAl.out]
            exact own_keep Hown.out (fun b hb => set4_other wr _ _ _ _ _ b (by have := (HownB.out b hb).1; omega))
          have hfo9 : FoCells (set4 wr w.heap.size (.int .i64 P.kind) (.int .i64 0) (.string P.name) (.slice A6 P.args.length cap6)) (fun b => w.heap.size ≤ b ∧ b < (set4 wr w.heap.size (.int .i64 P.kind) (.int .i64 0) (.string P.name) (.slice A6 P.args.length cap6)).heap.size) (A.mapv num) cs :=
            FoCells.keep _ Hfo.out (fun b hb => ⟨by omega, by rw [hsz]; exact hb.2.1⟩) (fun p hp => hcell p (by omega))
          obtain ⟨A7, c7, he7, hat7⟩ := fo_of_own hown9 hfo9 (fun b hb => by have := HownB.out b hb; rw [hsz]; omega)
          have HAt : Hid (FoAt (set4 wr w.heap.size (.int .i64 P.kind) (.int .i64 0) (.string P.name) (.slice A6 P.args.length cap6)) (fun b => w.heap.size ≤ b ∧ b < (set4 wr w.heap.size (.int .i64 P.kind) (.int .i64 0) (.string P.name) (.slice A6 P.args.length cap6)).heap.size) A6 (A.mapv num)) := by
            obtain rfl : A6 = A7 := by injection he7
            exact hide hat7
          clear he7 hat7 hown9 hfo9 hcell hsz
          change bodyPost Try.prog Try.f42 _ _ _ (set4 wr w.heap.size (.int .i64 P.kind) (.int .i64 0) (.string P.name) (.slice A6 P.args.length cap6))
          clear r0 r1 r2 r3 z0 z1 z2 z3 q0 q1
          generalize set4 wr w.heap.size (.int .i64 P.kind) (.int .i64 0) (.string P.name) (.slice A6 P.args.length cap6) = W9 at *
          refine bodyPost_ret (v := .agg #[.int .i64 P.kind, .int .i64 0, .string P.name, .slice A6 P.args.length cap6]) (by simp [results, Try.results42, go_sem, c0, c1, c2, c3]) rfl ⟨P.kind, 0, P.name, A6, P.args.length, cap6, rfl, ⟨A6, cap6, [], by rw [Fo.len_mapv, HAl.out], ?_, rfl⟩, hbf.out⟩
          rcases HAt.out with h1 | ⟨b, off, cs', e1, h2, h3, h4⟩
          · exact .inl h1
          · exact .inr ⟨b, off, cs', e1, h2, h3, h4⟩
end Go.Proofs.Ytafpbdmggnfdnaa

/- The program's store: Types. -/
namespace Go.Proofs.Ytafpbdmggnfdnaa
open Go.RowKit Go.Shelf Go.Maps
set_option linter.unusedVariables false
attribute [local go_sem] Oper.semAt_some

theorem leaves_marks_res {P : Program} {n : Nat} {fn : Func} {tmps : Array Value} {R : Ending → World → Prop} {v : Value} (Ds : List Nat) : ∀ (W : World), Marked Ds W → (∀ W', Only (fun b => b ∈ Ds) W W' → (results fn tmps).run P W' = .ok v W' ∧ R (.returned v) W') → LeavesInM Fence.wide n P fn tmps R (marks Ds) .returning W := by
  induction Ds with
  | nil =>
    intro W _ hR
    exact ⟨v, (hR W (Only.refl _ _)).1, (hR W (Only.refl _ _)).2⟩
  | cons D Ds ih =>
    intro W hm hR
    have hnd := List.nodup_cons.1 hm.nodup
    refine ⟨by simp, .inl ⟨D, _, rfl, run_takeDeferred (hm.at_ D List.mem_cons_self), ih _ ⟨hnd.2, fun E hE => ?_⟩ (fun W' ho => hR W' ?_)⟩⟩
    · exact ((only_put (l := D) _).block E (hm.lt E (List.mem_cons_of_mem _ hE)) (by rintro rfl; exact hnd.1 hE)).trans (hm.at_ E (List.mem_cons_of_mem _ hE))
    · exact ((only_put (l := D) _).mono fun b _ e => by rw [e]; exact List.mem_cons_self).then_ ho (fun b hb _ => List.mem_cons_of_mem _ hb)

theorem addNew_len (acc vs : List Nat) : (addNew acc vs).length ≤ acc.length + vs.length := by
  unfold addNew
  induction vs generalizing acc with
  | nil => simp
  | cons v vs ih =>
    rw [List.foldl_cons]
    split
    · have := ih acc; simp; omega
    · have := ih (acc ++ [v]); simp at this ⊢; omega
theorem Fo.vars_len (T : Fo) : T.vars.length ≤ T.cnt := by
  induction T with
  | nil => simp [Fo.vars]
  | var n r ih => simp [Fo.vars, Fo.cnt]; omega
  | con k m a r iha ih => simp [Fo.vars, Fo.cnt]; omega
theorem Stands.cnt_le {N : List Nd} {c F : Nat → Nat} {ns : List Nat} : ∀ {T : Fo}, Stands N c F ns T → (∀ x ∈ ns, ∀ B, Stands N c F [x] B → B.cnt ≤ 300) → T.cnt ≤ 300 * ns.length := by
  induction ns with
  | nil => intro T h _; cases h; simp [Fo.cnt]
  | cons x xs ih =>
    intro T h hs
    obtain ⟨A, B, rfl, h1, h2⟩ := h.cons_split
    have h3 := hs x List.mem_cons_self A h1
    have h4 := ih h2 (fun y hy => hs y (List.mem_cons_of_mem _ hy))
    rw [Fo.cnt_app, List.length_cons]; omega
theorem prefix_nodup {pre Y : List Nat} {x : Nat} (h : pre ++ [x] <+: Y) (hn : Y.Nodup) : x ∉ pre ∧ x ∈ Y := by
  have h1 : (pre ++ [x]).Nodup := hn.sublist h.sublist
  rw [List.nodup_append] at h1
  refine ⟨fun hx => h1.2.2 x hx x (by simp) rfl, h.subset (by simp)⟩

/-- The iterator, made. -/
theorem variables_call (g : Nat) (A : Option Addr) (len cap : Nat) (w : World) :
    Calls Try.prog 41 #[.pointer (some ⟨g, 0, none⟩), .slice A len cap] w fun e w' => e = .returned (.func (.func 61) #[] #[.pointer (some ⟨w.heap.size + 1, 0, none⟩), .pointer (some ⟨w.heap.size, 0, none⟩)]) ∧ w' = (w.alloc (.cells #[.pointer (some ⟨g, 0, none⟩)] 26)).alloc (.cells #[.slice A len cap] 30) := by
  go_enter Try.func41, Try.ntmps41
  go_wp2
  go_ret
  exact ⟨by simp, rfl⟩

/-- .. as a contract of an iterator. -/
theorem variables_seq {base : Nat} {L : Lay} {S : PS} {c d : Nat → Nat} (hi : Ok S c d) (n : Nat) (hn : 3 ≤ n) (bn bs : Nat) (Fp : Nat → Prop) (A : Option Addr) (cap : Nat) (ns : List Nat) (hns : ∀ x ∈ ns, x < S.nodes.length) (hlen : ns.length ≤ 1000000) (T : Fo) (hT : Stands S.nodes c (par S.forms) ns T)
    (w : World) (hst : St w base L S) (hFp : ∀ b, Fp b → b < w.heap.size ∧ ¬ L.fp b ∧ b ≠ bn ∧ b ≠ bs ∧ (ns ≠ [] → ∀ a, A = some a → a.block ≠ b) ∧ ∀ (i : Nat) (a : Option Addr × Nat), L.ad[i]? = some a → ∀ x, a.1 = some x → x.block ≠ b)
    (hB : w.cell? ⟨bn, 0, none⟩ = some (.slice A ns.length cap)) (hS : w.cell? ⟨bs, 0, none⟩ = some (.pointer (some ⟨L.g, 0, none⟩))) (hc : Nats w A ns) :
    SeqZ n Try.prog 61 #[.pointer (some ⟨bn, 0, none⟩), .pointer (some ⟨bs, 0, none⟩)] (fun v : Nat => #[.int .i64 (v : Int)]) Fp (addNew [] T.vars) w := by
  intro l J Jx W hb hJ hJx hY h0
  obtain ⟨g, V⟩ := hi.varsOf
  have hBl := World.block_lt_of_cell? w _ hB
  have hSl := World.block_lt_of_cell? w _ hS
  rw [← hT.vars_eq] at hY ⊢
  exact variables1_in (base := base) (L := L) hi n hn l bn bs Fp A cap ns hns hlen g _ V J Jx W (hst.later hb) (fun b hf => ⟨Nat.lt_of_lt_of_le (hFp b hf).1 hb.size, (hFp b hf).2⟩) hJ hJx hY ((hb.cell (p := ⟨bn, 0, none⟩) hBl).trans hB) ((hb.cell (p := ⟨bs, 0, none⟩) hSl).trans hS) (Ints.below hc hb) h0

/-- Types of known nodes of a fit size: new types, numbered as they come. -/
def TypesPost (w : World) (n : Nat) (F : Fo) (e : Ending) (w' : World) : Prop :=
  ∃ A c, e = .returned (.tuple #[.slice A n c, .int .i64 0]) ∧ FoAt w' (fun b => w.heap.size ≤ b ∧ b < w'.heap.size) A F ∧ Below w.heap.size w w'

set_option maxRecDepth 100000 in
set_option maxHeartbeats 4000000 in
theorem types_any {w : World} {base : Nat} {L : Lay} {S : PS} {c d : Nat → Nat} (h : St w base L S) (hi : Ok S c d) (A : Option Addr) (cap : Nat) (ns : List Nat) (hA : Nats w A ns) (hns : ∀ x ∈ ns, x < S.nodes.length) (hlen : ns.length ≤ 1000000)
    (T : Fo) (hT : Stands S.nodes c (par S.forms) ns T) (hsz : ∀ x ∈ ns, ∀ B, Stands S.nodes c (par S.forms) [x] B → B.cnt ≤ 300) :
    Calls Try.prog 15 #[.pointer (some ⟨L.g, 0, none⟩), .slice A ns.length cap] w (TypesPost w ns.length (ren T)) := by
  have hall : allIn S.nodes.length (cast ns) = true := by
    unfold allIn cast
    rw [List.all_eq_true]
    intro x hx
    obtain ⟨y, hy, rfl⟩ := List.mem_map.1 hx
    have := hns y hy
    simp; omega
  have HK := hide (callsIn_wide (n := 4) |>.2 (known_any h A cap (cast ns) hA (by simp [cast]; exact hlen)))
  rw [hall, show (cast ns).length = ns.length by simp [cast]] at HK
  have hmm := @run_makeMap Try.prog
  have Hi := hide hi; have Hst := hide h; have HA := hide hA; have Hns := hide hns; have HT := hide hT; have Hsz := hide hsz
  have hm := h.many
  clear hall hi h hA hns hT hsz
  refine (callsIn_wide (n := 5)).1 ?_
  refine callsIn_of_wp_marks Try.func15 rfl trivial ?_ rfl
  simp only [Try.ntmps15, List.size_toArray, List.length_cons, List.length_nil, Nat.reduceAdd, Nat.reduceSub, Array.replicate_succ, Array.replicate_zero, List.push_toArray, List.append_toArray, List.nil_append, List.cons_append]
  gi_wp2_with fail
  refine ⟨trivial, HK.out.mono ?_⟩
  rintro e w1 ⟨rfl, rfl⟩
  gi_wp2
  gi_loopw [19] (fun i wr => ∃ k : Nat, i = .int .i64 (k : Int) ∧ k ≤ ns.length ∧ Hid (Below w.heap.size w wr)) (fun i _ => ns.length - (intOf i).toNat)
  case atStart => exact ⟨0, rfl, by omega, hide (Below.refl _ _)⟩
  case round =>
    obtain ⟨k, rfl, hk, HB⟩ := hrel
    by_cases hlt : k < ns.length
    · obtain ⟨b, off, hAe, hb, d0⟩ := HA.out.at_ k (by simpa [cast] using hlt)
      simp only [cast, List.getElem_map] at d0
      obtain ⟨x, hx⟩ : ∃ x, ns[k] = x := ⟨_, rfl⟩
      rw [hx] at d0
      have e0 := (HB.out.cell (p := ⟨b, off + k, none⟩) hb).trans d0
      have hxm : x ∈ ns := by rw [← hx]; exact List.getElem_mem _
      have hxn := Hns.out x hxm
      obtain ⟨B, hB⟩ := Hi.out.stands [x] (by simpa using hxn)
      have hBc := Hsz.out x hxm B hB
      have hcap : capped B.cnt = B.cnt := by unfold capped; rw [if_pos hBc]
      have HZ := hide (callsIn_wide (n := 4) |>.2 (size_any (Hst.out.later HB.out) Hi.out x hxn B hB))
      rw [hcap] at HZ
      simp only [hAe]
      have HAe := hide hAe
      clear hAe d0 hx hcap
      gi_wp2_with fail
      refine ⟨trivial, HZ.out.mono ?_⟩
      rintro e w2 ⟨rfl, hb2⟩
      have kk : decide ((300 : Int) < (B.cnt : Int)) = false := by simp; omega
      have HB2 := hide (HB.out.trans (hb2.mono HB.out.size))
      clear hb2 HZ
      gi_wp2
      go_roundw
      case rel => exact ⟨k + 1, by go_num, by omega, HB2.out⟩
      case measure => simp [intOf]; omega
    · gi_wp2_with fail
      obtain rfl : k = ns.length := by omega
      refine ⟨trivial, (callsIn_wide.2 (variables_call L.g A ns.length cap _)).mono ?_⟩
      rintro e w3 ⟨rfl, rfl⟩
      simp only [World.size_alloc]
      gi_wp2_with fail
      obtain ⟨Wv, hWv⟩ : ∃ Wv, ((((wr.alloc (Obj.map #[] 0)).alloc (Obj.cells #[.map (some wr.heap.size)] 76)).alloc (.cells #[.pointer (some ⟨L.g, 0, none⟩)] 26)).alloc (.cells #[.slice A ns.length cap] 30)) = Wv := ⟨_, rfl⟩
      have hbv : Below wr.heap.size wr Wv := by rw [← hWv]; exact ((((Below.refl _ _).alloc (Nat.le_refl _) _).alloc (by simp only [World.size_alloc]; omega) _).alloc (by simp only [World.size_alloc]; omega) _).alloc (by simp only [World.size_alloc]; omega) _
      have hzv : Wv.heap.size = wr.heap.size + 4 := by rw [← hWv]; simp
      have hmv : MapOn Wv wr.heap.size 0 0 (fun _ => none) := (MapOn.new wr).keep (by rw [← hWv]; rw [Below.heap_alloc _ _ _ (by simp only [World.size_alloc]; omega), Below.heap_alloc _ _ _ (by simp only [World.size_alloc]; omega), Below.heap_alloc _ _ _ (by simp only [World.size_alloc]; omega)])
      have hbb : Wv.heap[wr.heap.size + 1]? = some (.cells #[.map (some wr.heap.size)] 76 (0, 0)) := by
        rw [← hWv, Below.heap_alloc _ _ _ (by simp only [World.size_alloc]; omega), Below.heap_alloc _ _ _ (by simp only [World.size_alloc]; omega)]
        have := heap_alloc_new (wr.alloc (Obj.map #[] 0)) (Obj.cells #[.map (some wr.heap.size)] 76)
        rwa [World.size_alloc] at this
      have hbs : Wv.cell? ⟨wr.heap.size + 2, 0, none⟩ = some (.pointer (some ⟨L.g, 0, none⟩)) := by
        have h1 := heap_alloc_new ((wr.alloc (Obj.map #[] 0)).alloc (Obj.cells #[.map (some wr.heap.size)] 76)) (.cells #[.pointer (some ⟨L.g, 0, none⟩)] 26)
        simp only [World.size_alloc] at h1
        have h2 : Wv.heap[wr.heap.size + 2]? = some (.cells #[.pointer (some ⟨L.g, 0, none⟩)] 26 (0, 0)) := by rw [← hWv, Below.heap_alloc _ _ _ (by simp only [World.size_alloc]; omega)]; exact h1
        rw [cell_of_row _ _ _ _ _ _ h2]; rfl
      have hbn : Wv.cell? ⟨wr.heap.size + 3, 0, none⟩ = some (.slice A ns.length cap) := by
        have h1 := heap_alloc_new (((wr.alloc (Obj.map #[] 0)).alloc (Obj.cells #[.map (some wr.heap.size)] 76)).alloc (.cells #[.pointer (some ⟨L.g, 0, none⟩)] 26)) (.cells #[.slice A ns.length cap] 30)
        simp only [World.size_alloc] at h1
        have h2 : Wv.heap[wr.heap.size + 3]? = some (.cells #[.slice A ns.length cap] 30 (0, 0)) := by rw [← hWv]; exact h1
        rw [cell_of_row _ _ _ _ _ _ h2]; rfl
      have HBv := hide (HB.out.trans (hbv.mono HB.out.size))
      have hwr : w.heap.size ≤ wr.heap.size := HB.out.size
      have hstv := Hst.out.later HBv.out
      have hAv : Nats Wv A ns := Ints.below HA.out HBv.out
      have hAl : ∀ a, A = some a → ns ≠ [] → a.block < w.heap.size := by
        intro a ha hne
        obtain ⟨b, off, e1, hb, -⟩ := HA.out (by simpa [cast] using hne)
        rw [ha] at e1; injection e1 with e1; rw [e1]; exact hb
      have hYn : (addNew [] T.vars).Nodup := addNew_nodup _ _ List.nodup_nil
      have hYl : (addNew [] T.vars).length ≤ 300000000 := by
        have h1 := addNew_len [] T.vars
        have h2 := T.vars_len
        have h3 := HT.out.cnt_le Hsz.out
        simp at h1; omega
      have hYv : ∀ v ∈ addNew [] T.vars, v < S.nodes.length := fun v hv => (HT.out.roots Hi.out.inv.wf Hi.out.roots Hns.out v (by simpa using (addNew_mem _ _ _).1 hv)).1
      simp only [hWv]
      clear hWv hbv HB HK
      generalize hm0 : wr.heap.size = m0 at *
      clear hm0
      have old : Older L w.heap.size := Hst.out.older
      refine wpZ_rangeFunc (gf := 61) (lb := #[.pointer (some ⟨m0 + 1 + 1 + 1, 0, none⟩), .pointer (some ⟨m0 + 1 + 1, 0, none⟩)]) (by omega) rfl (enters_of Try.func61 (by kernel_rfl) rfl)
        (Fp := fun b1 => b1 = m0) (variables_seq Hi.out 4 (by omega) _ _ _ A cap ns Hns.out hlen T HT.out Wv hstv ?hFp hbn hbs hAv) (fun _ => rfl) (by rintro b1 rfl; omega)
        (fun pre Mz Wx => MapOn Wx m0 pre.length pre.length (numAt pre) ∧ Only (fun b1 => b1 = m0 ∨ Wv.heap.size ≤ b1) Wv Wx) (fun _ _ _ => False) ?hI (fun _ _ _ _ h => h.elim) ⟨by rw [numAt_nil]; exact hmv, Only.refl _ _⟩ ?a1 ?assign ?body ?done (fun _ _ _ _ _ h => h.elim)
      case hFp =>
        rintro b1 rfl
        refine ⟨by omega, fun hf => by have := old.fp _ hf; omega, by omega, by omega, fun hne a ha => by have := hAl a ha hne; omega, fun i a ha x hx => by have := old.ad i a ha x hx; omega⟩
      case hI =>
        rintro pre Mz Wa Wb ⟨h1, h2⟩ ho
        exact ⟨h1.keep (ho.block _ h1.lt (fun hb => by omega)), h2.then_ ho (fun b1 hb _ => .inr hb.1)⟩
      case assign =>
        rintro l' x Wx K hK
        gi_wp2
        exact hK
      case body =>
        rintro l' pre x Mz Wx hpre hszx hMz ⟨hmx, hox⟩
        obtain ⟨hxp, hxY⟩ := prefix_nodup hpre hYn
        have hxn := hYv x hxY
        have hpl : pre.length + 1 ≤ 300000000 := by have := hpre.length_le; simp at this; omega
        have cbx : Wx.cell? ⟨m0 + 1, 0, none⟩ = some (.map (some m0)) := by
          rw [cell_of_row _ _ _ _ _ _ ((hox.block (m0 + 1) (by omega) (by omega)).trans hbb)]; rfl
        have Hmx := hide hmx
        have Hnum : Hid (numAt pre x = none) := hide (by simp [numAt, hxp])
        clear hmx
        gi_wp2_with (first | (gi_at_len; refine wpListIn_on_len rfl (.tmp 35) rfl m0 pre.length pre.length (numAt pre) rfl Hmx.out ?_) | (gi_at_mapUpdate; refine wpListIn_on_set rfl (.tmp 33) (.tmp 34) (.tmp 36) rfl m0 pre.length pre.length (numAt pre) rfl Hmx.out (by omega) x pre.length rfl rfl (by omega) (by omega) ?_; intro W4 M4 hg4))
        rw [Hnum.out] at M4
        have ho4 : Only (fun b1 => b1 = m0) Wx W4 := (only_of_grown hg4).mono fun b1 _ e => by injection e with e; exact e.symm
        refine ⟨⟨Mz, ⟨?_, hox.then_ ho4 (fun b1 hb _ => .inl hb)⟩, fun b1 hb => .inl hb⟩, ho4.mono fun b1 _ e => .inl e⟩
        have e1 : updO (numAt pre) x (some pre.length) = numAt (pre ++ [x]) := by
          funext v
          rw [numAt_snoc pre x hxp]; rfl
        rw [← e1, List.length_append]
        simpa using M4
      case done =>
        rintro Mz Wx hszx hMz ⟨hmx, hox⟩ hK
        have hbb' : Wx.heap[m0 + 1]? = some (.cells #[.map (some m0)] 76 (0, 0)) := (hox.block (m0 + 1) (by omega) (by omega)).trans hbb
        have hstx : St Wx base L S := hstv.only hox (fun b1 hb _ hf => by have := old.fp _ hf; omega) (fun i a ha x hx hb => by have := old.ad i a ha x hx; omega)
        have HBx : Hid (Below w.heap.size w Wx) := hide (Only.below_trans HBv.out hox (fun i _ hb => by omega) (by omega))
        obtain ⟨i4, ki, kz0, kz1, kz2⟩ := info_parts tyInfo
        have Ki := hide ki; have Kz0 := hide kz0; have Kz1 := hide kz1; have Kz2 := hide kz2
        obtain ⟨num, hnum0⟩ : ∃ num, (fun v => (numAt (addNew [] T.vars) v).getD 0) = num := ⟨_, rfl⟩
        have Hnum0 := hide hnum0
        have HT0 : Hid (TRel Wx S c num ns T (.slice none 0 0) 0 Wx) := hide ⟨Below.refl _ _, .nil, T, [], rfl, .nil, by simpa using HT.out, World.ownsRow_nil _ _ _ _, rfl⟩
        have Hstx := hide hstx; have Hmx := hide hmx; have HK2 := hide hK; have Hbb := hide hbb'
        have hwx : w.heap.size + 4 < Wx.heap.size := by omega
        have hz1 : m0 + 4 ≤ Wv.heap.size := by omega
        have hz2 : Wv.heap.size ≤ m0 + 4 := by omega
        clear hzv hnum0 ki kz0 kz1 kz2 hstx hmx hK hbb' hox hmv hbb hbs hbn HBv hstv hAv
        gi_wp2
        gi_loopw [10, 39] (fun va vj wj => ∃ j : Nat, vj = .int .i64 j ∧ j ≤ ns.length ∧ TRel Wx S c num ns T va j wj) (fun _ vj _ => ns.length - (intOf vj).toNat)
        case atStart => exact ⟨0, rfl, by omega, HT0.out⟩
        case round =>
          obtain ⟨j, rfl, hj, R⟩ := hrel
          clear HT0
          have hnum := Hnum0.out
          have HM2 : Hid (MapIs Wx m0 (addNew [] T.vars).length num) := hide (by rw [← hnum]; exact Hmx.out.is)
          by_cases hlt : j < ns.length
          · have hst := Hstx.out.later R.below
            obtain ⟨b1, o1, hb1, hb1l, c1⟩ := HA.out.at_ j (by simpa [cast] using hlt)
            simp only [cast, List.getElem_map] at c1
            obtain ⟨y, hy⟩ : ∃ y, ns[j] = y := ⟨_, rfl⟩
            rw [hy] at c1
            have c1' : wr.cell? ⟨b1, o1 + j, none⟩ = some (.int .i64 (y : Int)) := ((HBx.out.trans (R.below.mono HBx.out.size)).cell (p := ⟨b1, o1 + j, none⟩) hb1l).trans c1
            have hyn : y < S.nodes.length := Hns.out y (by rw [← hy]; exact List.getElem_mem _)
            obtain ⟨Aj, Rj, cs, hsp, hs1, hs2, hown, hfo⟩ := R.parts
            rw [List.drop_eq_getElem_cons hlt, hy, show y :: ns.drop (j + 1) = [y] ++ ns.drop (j + 1) from rfl] at hs2
            obtain ⟨B, R', hRR, hsB, hsR⟩ := hs2.split
            have cbx : wr.cell? ⟨m0 + 1, 0, none⟩ = some (.map (some m0)) := by
              rw [cell_of_row _ _ _ _ _ _ ((R.below.block (m0 + 1) (by omega)).trans Hbb.out)]; rfl
            have HC := hide (callsIn_wide (n := 4) |>.2 (told_any Hi.out m0 (addNew [] T.vars).length num B.cnt y B wr (Nat.le_refl _) hst (HM2.out.keep (R.below.block _ HM2.out.lt)) hyn hsB))
            have Htake : Hid (ns.take (j + 1) = ns.take j ++ [y]) := hide (by rw [List.take_succ_eq_append_getElem hlt, hy])
            have HR := hide R; have Hsp := hide hsp; have Hs1 := hide hs1; have HsB := hide hsB; have HsR := hide hsR; have Hown := hide hown; have Hfo := hide hfo; have HRR := hide hRR
            have HB1 := hide hb1
            have Hnum := hide hnum
            simp only [hb1]
            clear R hsp hs1 hs2 hsB hsR hown hfo hRR hst hy hb1 c1 hnum
            gi_wp2_with fail
            refine ⟨trivial, HC.out.mono ?_⟩
            rintro e W3 ⟨kd, nu, sn, A5, n5, c5, rfl, hfo3, hb3⟩
            have own3 := own_keep Hown.out (fun b hb => hb3.block b (Hown.out.lt b hb).2)
            have hbW : Below Wx.heap.size Wx W3 := HR.out.below.trans (hb3.mono HR.out.below.size)
            have O4 := hide (own3.alloc (.cells #[.int .i64 kd, .int .i64 nu, .string sn, .slice A5 n5 c5] 48))
            have N4 := hide (four_new W3 (.int .i64 kd) (.int .i64 nu) (.string sn) (.slice A5 n5 c5) 48)
            have E4 : Hid (∀ u ∈ [Value.int .i64 kd, .int .i64 nu, .string sn, .slice A5 n5 c5], u.oneCell' = true) := hide (by simp [Value.oneCell'])
            have Hb4 := hide (hbW.alloc hbW.size (.cells #[.int .i64 kd, .int .i64 nu, .string sn, .slice A5 n5 c5] 48))
            have hz4 : Wx.heap.size ≤ W3.heap.size := hbW.size
            have Hb3 := hide hb3; have Hfo3 := hide hfo3
            have hw2 : Wx.heap.size ≤ wr.heap.size := HR.out.below.size
            clear own3 hbW hb3 hfo3 HC
            gi_wp2_with (gi_at_builtin; go_must (refine wpListIn_append_own_at _ rfl (.tmp 43) (.tmp 48) 34 rfl Wx.heap.size 48 i4 (.agg #[.int .i64 0, .int .i64 0, .string ByteArray.empty, .slice none 0 0]) 4 56 Try.underlying34 Ki.out Kz0.out Kz1.out Kz2.out rfl (by decide) u10 j cs rfl O4.out ⟨W3.heap.size, 0, none⟩ 1 1 [.int .i64 kd, .int .i64 nu, .string sn, .slice A5 n5 c5] rfl rfl N4.out E4.out (by simp only [maxLen]; omega) (by omega) (by simp; omega) ?_); intro v6 W6 own6 grow6 nil6 at6; clear nil6)
            go_roundw
            case measure => simp [intOf]; omega
            case rel =>
              refine ⟨j + 1, by go_num, by omega, Hb4.out.grown grow6 (by simp; omega) (fun b e1 => (O4.out.lt b e1).1), Aj.app B, R', cs ++ [.int .i64 kd, .int .i64 nu, .string sn, .slice A5 n5 c5], ?_, ?_, HsR.out, own6, ?_⟩
              · rw [Hsp.out, HRR.out, Fo.app_assoc]
              · rw [Htake.out]; exact Hs1.out.app HsB.out
              · have hs6 := grow6.size
                rw [World.size_alloc] at hs6
                have hsz3 := Hb3.out.size
                have hsz4 : (W3.alloc (.cells #[.int .i64 kd, .int .i64 nu, .string sn, .slice A5 n5 c5] 48)).heap.size = W3.heap.size + 1 := World.size_alloc _ _
                have hcell : ∀ p : Addr, p.block < W3.heap.size → u10.ownBlock ≠ some p.block → W6.cell? p = W3.cell? p := fun p hp hne => (grow6.cell_far p (by rw [hsz4]; omega) (fun e1 => hne e1.symm)).trans (World.cell?_alloc_lt W3 _ p hp)
                have hold : ∀ b, u10.ownBlock = some b → b < wr.heap.size := fun b hb => (Hown.out.lt b hb).2
                have hv6 : ∀ b, b < W3.heap.size → u10.ownBlock ≠ some b → v6.ownBlock ≠ some b := by
                  intro b hb hne e1
                  rcases at6 with e2 | e2
                  · rw [e2] at e1; exact hne e1
                  · rw [e2, hsz4] at e1; injection e1 with e1; omega
                rw [Fo.mapv_app]
                refine FoCells.app _ (FoCells.keep _ Hfo3.out ?_ ?_) (FoCells.keep _ Hfo.out ?_ ?_)
                · intro b hb
                  exact ⟨by omega, by omega, hv6 b hb.2 (fun e1 => by have := hold b e1; omega)⟩
                · intro p hp
                  exact hcell p hp.2 (fun e1 => by have := hold _ e1; omega)
                · intro b hb
                  exact ⟨hb.1, by omega, hv6 b (by omega) hb.2.2⟩
                · intro p hp
                  exact (hcell p (by omega) hp.2.2).trans (Hb3.out.cell hp.2.1)
          · obtain rfl : j = ns.length := by omega
            obtain ⟨Aj, Rj, cs, hsp, hs1, hs2, hown, hfo⟩ := R.parts
            rw [List.drop_length] at hs2
            cases hs2
            rw [Fo.app_nil] at hsp
            subst hsp
            obtain ⟨A6, cap6, hv8, -, -⟩ := own_len hown
            subst hv8
            have HR := hide R; have Hown := hide hown; have Hfo := hide hfo; have Hnum := hide hnum
            clear R hown hfo hs1 hnum
            gi_wp2
            have hbf : Below w.heap.size w wr := HBx.out.trans (HR.out.below.mono HBx.out.size)
            have hml : Wv.heap.size < wr.heap.size := by have := HR.out.below.size; omega
            have hfo9 : FoCells wr (fun b => Wx.heap.size ≤ b ∧ b < wr.heap.size) (T.mapv num) cs := FoCells.keep _ Hfo.out (fun b hb => ⟨hb.1, hb.2.1⟩) (fun p _ => rfl)
            obtain ⟨A7, c7, he7, hat7⟩ := fo_of_own (F := T.mapv num) (by rw [Fo.len_mapv, HT.out.len]; exact Hown.out) hfo9 (fun b hb => Hown.out.lt b hb)
            obtain rfl : A6 = A7 := by injection he7
            refine leaves_marks_res (v := .tuple #[.slice A6 ns.length cap6, .int .i64 0]) [Wv.heap.size] wr ⟨by simp, fun D hD => ?_⟩ fun W' ho => ⟨by simp [results, Try.results15, go_sem], A6, cap6, rfl, ?_, ?_⟩
            · simp at hD; subst hD
              exact (HR.out.below.block _ (by omega)).trans HK2.out
            · rw [← ren_eq, Hnum.out]
              refine hat7.keep (fun b hb => ⟨by omega, Nat.lt_of_lt_of_le hb.2 ho.size⟩) (fun p hp => ho.cell hp.2 ?_)
              simp; omega
            · exact Only.below_trans hbf ho (fun i _ hi => by simp at hi; omega) (by omega)
end Go.Proofs.Ytafpbdmggnfdnaa

/- The program's store: Types where a node is unknown, or too great. -/
namespace Go.Proofs.Ytafpbdmggnfdnaa
open Go.RowKit Go.Shelf Go.Maps
set_option linter.unusedVariables false
attribute [local go_sem] Oper.semAt_some

def TypesNo (w : World) (err : Int) (e : Ending) (w' : World) : Prop := e = .returned (.tuple #[.slice none 0 0, .int .i64 err]) ∧ Below w.heap.size w w'

set_option maxRecDepth 100000 in
set_option maxHeartbeats 4000000 in
theorem types_no {w : World} {base : Nat} {L : Lay} {S : PS} (h : St w base L S) (A : Option Addr) (cap : Nat) (xs : List Int) (hA : Ints w A xs) (hlen : xs.length ≤ 1000000) (hall : allIn S.nodes.length xs = false) :
    Calls Try.prog 15 #[.pointer (some ⟨L.g, 0, none⟩), .slice A xs.length cap] w (TypesNo w 221) := by
  have HK := hide (callsIn_wide (n := 4) |>.2 (known_any h A cap xs hA hlen))
  rw [hall] at HK
  clear hall h hA
  refine (callsIn_wide (n := 5)).1 ?_
  refine callsIn_of_wp_marks Try.func15 rfl trivial ?_ rfl
  simp only [Try.ntmps15, List.size_toArray, List.length_cons, List.length_nil, Nat.reduceAdd, Nat.reduceSub, Array.replicate_succ, Array.replicate_zero, List.push_toArray, List.append_toArray, List.nil_append, List.cons_append]
  gi_wp2_with fail
  refine ⟨trivial, HK.out.mono ?_⟩
  rintro e w1 ⟨rfl, rfl⟩
  gi_wp2
  exact ⟨.tuple #[.slice none 0 0, .int .i64 221], by simp [results, Try.results15, go_sem], rfl, Below.refl _ _⟩

set_option maxRecDepth 100000 in
set_option maxHeartbeats 4000000 in
theorem types_big {w : World} {base : Nat} {L : Lay} {S : PS} {c d : Nat → Nat} (h : St w base L S) (hi : Ok S c d) (A : Option Addr) (cap : Nat) (ns : List Nat) (hA : Nats w A ns) (hns : ∀ x ∈ ns, x < S.nodes.length) (hlen : ns.length ≤ 1000000)
    (hbig : ∃ x ∈ ns, ∃ B, Stands S.nodes c (par S.forms) [x] B ∧ 300 < B.cnt) :
    Calls Try.prog 15 #[.pointer (some ⟨L.g, 0, none⟩), .slice A ns.length cap] w (TypesNo w 120) := by
  have hall : allIn S.nodes.length (cast ns) = true := by
    unfold allIn cast
    rw [List.all_eq_true]
    intro x hx
    obtain ⟨y, hy, rfl⟩ := List.mem_map.1 hx
    have := hns y hy
    simp; omega
  have HK := hide (callsIn_wide (n := 4) |>.2 (known_any h A cap (cast ns) hA (by simp [cast]; exact hlen)))
  rw [hall, show (cast ns).length = ns.length by simp [cast]] at HK
  have Hi := hide hi; have Hst := hide h; have HA := hide hA; have Hns := hide hns; have Hbig := hide hbig
  have hm := h.many
  clear hall hi h hA hns hbig
  refine (callsIn_wide (n := 5)).1 ?_
  refine callsIn_of_wp_marks Try.func15 rfl trivial ?_ rfl
  simp only [Try.ntmps15, List.size_toArray, List.length_cons, List.length_nil, Nat.reduceAdd, Nat.reduceSub, Array.replicate_succ, Array.replicate_zero, List.push_toArray, List.append_toArray, List.nil_append, List.cons_append]
  gi_wp2_with fail
  refine ⟨trivial, HK.out.mono ?_⟩
  rintro e w1 ⟨rfl, rfl⟩
  gi_wp2
  gi_loopw [19] (fun i wr => ∃ k : Nat, i = .int .i64 (k : Int) ∧ k ≤ ns.length ∧ Hid (Below w.heap.size w wr) ∧ Hid (∀ x ∈ ns.take k, ∀ B, Stands S.nodes c (par S.forms) [x] B → B.cnt ≤ 300)) (fun i _ => ns.length - (intOf i).toNat)
  case atStart => exact ⟨0, rfl, by omega, hide (Below.refl _ _), hide (by simp)⟩
  case round =>
    obtain ⟨k, rfl, hk, HB, HFit⟩ := hrel
    by_cases hlt : k < ns.length
    · obtain ⟨b, off, hAe, hb, d0⟩ := HA.out.at_ k (by simpa [cast] using hlt)
      simp only [cast, List.getElem_map] at d0
      obtain ⟨x, hx⟩ : ∃ x, ns[k] = x := ⟨_, rfl⟩
      rw [hx] at d0
      have e0 := (HB.out.cell (p := ⟨b, off + k, none⟩) hb).trans d0
      have hxm : x ∈ ns := by rw [← hx]; exact List.getElem_mem _
      have hxn := Hns.out x hxm
      obtain ⟨B, hB⟩ := Hi.out.stands [x] (by simpa using hxn)
      have HZ := hide (callsIn_wide (n := 4) |>.2 (size_any (Hst.out.later HB.out) Hi.out x hxn B hB))
      have Htake : Hid (ns.take (k + 1) = ns.take k ++ [x]) := hide (by rw [List.take_succ_eq_append_getElem hlt, hx])
      have HSB := hide hB
      simp only [hAe]
      have HAe := hide hAe
      clear hAe d0 hx hB
      by_cases hBc : B.cnt ≤ 300
      · have hcap : capped B.cnt = B.cnt := by unfold capped; rw [if_pos hBc]
        rw [hcap] at HZ
        gi_wp2_with fail
        refine ⟨trivial, HZ.out.mono ?_⟩
        rintro e w2 ⟨rfl, hb2⟩
        have kk : decide ((300 : Int) < (B.cnt : Int)) = false := by simp; omega
        have HB2 := hide (HB.out.trans (hb2.mono HB.out.size))
        clear hb2 HZ
        gi_wp2
        go_roundw
        case rel =>
          refine ⟨k + 1, by go_num, by omega, HB2, hide ?_⟩
          rw [Htake.out]
          intro y hy C hC
          rcases List.mem_append.1 hy with hy | hy
          · exact HFit.out y hy C hC
          · simp at hy; subst hy; rw [hC.unique HSB.out]; exact hBc
        case measure => simp [intOf]; omega
      · have hcap : capped B.cnt = 301 := by unfold capped; rw [if_neg hBc]
        rw [hcap] at HZ
        gi_wp2_with fail
        refine ⟨trivial, HZ.out.mono ?_⟩
        rintro e w2 ⟨rfl, hb2⟩
        have HB2 := hide (HB.out.trans (hb2.mono HB.out.size))
        clear hb2 HZ
        gi_wp2
        exact ⟨.tuple #[.slice none 0 0, .int .i64 120], by simp [results, Try.results15, go_sem], rfl, HB2.out⟩
    · exfalso
      obtain ⟨x, hx, B, hB, hl⟩ := Hbig.out
      have := HFit.out x (by rw [List.take_of_length_le (by omega)]; exact hx) B hB
      omega
end Go.Proofs.Ytafpbdmggnfdnaa

/- Plain: an empty store; a node more. -/
namespace Go.Proofs.Ytafpbdmggnfdnaa
set_option linter.unusedVariables false

/-- A node more: a class of its own. -/
def addC (n : Nat) (c : Nat → Nat) : Nat → Nat := fun i => if i = n then n else c i
theorem addC_old {n : Nat} {c : Nat → Nat} {i : Nat} (h : i < n) : addC n c i = c i := by unfold addC; rw [if_neg (by omega)]
theorem addC_new {n : Nat} {c : Nat → Nat} : addC n c n = n := by unfold addC; rw [if_pos rfl]
theorem snoc_at {N : List Nd} {p q : Nd} {i : Nat} (h : (N ++ [p])[i]? = some q) : (i < N.length ∧ N[i]? = some q) ∨ (i = N.length ∧ q = p) := by
  by_cases hi : i < N.length
  · rw [List.getElem?_append_left hi] at h; exact .inl ⟨hi, h⟩
  · rw [List.getElem?_append_right (by omega)] at h
    by_cases e : i = N.length
    · subst e; simp at h; exact .inr ⟨rfl, h.symm⟩
    · rw [List.getElem?_eq_none (by simp; omega)] at h; cases h
theorem Wf.add {N : List Nd} (h : Wf N) (p : Nd) (ha : ∀ a ∈ p.args, a < N.length) (hk : p.kind = 1 → p.args = []) : Wf (N ++ [p]) := by
  intro i q hq
  rcases snoc_at hq with ⟨_, h1⟩ | ⟨rfl, rfl⟩
  · exact h i q h1
  · exact ⟨ha, hk⟩
theorem Closed.add {N : List Nd} {c : Nat → Nat} (h : Closed N c) (hw : Wf N) (hc : ∀ i, i < N.length → c i < N.length) (p : Nd) (ha : ∀ a ∈ p.args, a < N.length) : Closed (N ++ [p]) (addC N.length c) := by
  have harg : ∀ {i : Nat} {q : Nd}, (N ++ [p])[i]? = some q → ∀ a ∈ q.args, a < N.length := by
    intro i q hq a hx
    rcases snoc_at hq with ⟨h0, h1⟩ | ⟨rfl, rfl⟩
    · have := (hw i q h1).1 a hx; omega
    · exact ha a hx
  intro i j P Q hi hj hij hP hQ
  rcases snoc_at hi with ⟨i0, i1⟩ | ⟨rfl, rfl⟩ <;> rcases snoc_at hj with ⟨j0, j1⟩ | ⟨rfl, rfl⟩
  · rw [addC_old i0, addC_old j0] at hij
    obtain ⟨h1, h2⟩ := h i j P Q i1 j1 hij hP hQ
    refine ⟨h1, fun k a b hka hkb => ?_⟩
    rw [addC_old (harg hi a (List.mem_of_getElem? hka)), addC_old (harg hj b (List.mem_of_getElem? hkb))]
    exact h2 k a b hka hkb
  · rw [addC_old i0, addC_new] at hij
    have := hc i i0; omega
  · rw [addC_old j0, addC_new] at hij
    have := hc j j0; omega
  · refine ⟨⟨rfl, rfl, rfl⟩, fun k a b hka hkb => ?_⟩
    rw [hka] at hkb; injection hkb with e; rw [e]
theorem Acyc.add {N : List Nd} {c : Nat → Nat} (h : Acyc N c) (hw : Wf N) (hc : ∀ i, i < N.length → c i < N.length) (p : Nd) (ha : ∀ a ∈ p.args, a < N.length) : Acyc (N ++ [p]) (addC N.length c) := by
  obtain ⟨g, g1, g2⟩ := h
  obtain ⟨M, hM⟩ : ∃ M, ∀ i, i < N.length → g i < M := by
    generalize N.length = n
    induction n with
    | zero => exact ⟨0, by intro i hi; omega⟩
    | succ n ih =>
      obtain ⟨M, hM⟩ := ih
      refine ⟨max M (g n + 1), fun i hi => ?_⟩
      by_cases e : i = n
      · subst e; omega
      · have := hM i (by omega); omega
  refine ⟨fun i => if i = N.length then M else g i, fun i j hi hj hij => ?_, fun i q hq a hx => ?_⟩
  · simp only [List.length_append, List.length_singleton] at hi hj
    by_cases ei : i = N.length <;> by_cases ej : j = N.length
    · subst ei; subst ej; rfl
    · subst ei; rw [addC_new, addC_old (by omega)] at hij
      have := hc j (by omega); omega
    · subst ej; rw [addC_new, addC_old (by omega)] at hij
      have := hc i (by omega); omega
    · rw [addC_old (by omega), addC_old (by omega)] at hij
      simp only [if_neg ei, if_neg ej]
      exact g1 i j (by omega) (by omega) hij
  · rcases snoc_at hq with ⟨h0, h1⟩ | ⟨rfl, rfl⟩
    · have h2 := (hw i q h1).1 a hx
      simp only [if_neg (show ¬ i = N.length by omega), if_neg (show ¬ a = N.length by omega)]
      exact g2 i q h1 a hx
    · have h2 := ha a hx
      simp only [if_neg (show ¬ a = N.length by omega), if_true]
      exact hM a h2
theorem Form.add {N : List Nd} {c : Nat → Nat} {x f : Nat} (h : Form N c x f) (hx : x < N.length) (p : Nd) : Form (N ++ [p]) (addC N.length c) x f := by
  refine ⟨by have := h.lt; simp; omega, by rw [addC_old h.lt]; exact h.cls, fun j P Q hj hjx hP hQ => ?_⟩
  rw [List.getElem?_append_left h.lt] at hQ
  rcases snoc_at hj with ⟨h0, h1⟩ | ⟨rfl, rfl⟩
  · rw [addC_old h0] at hjx
    exact h.head j P Q h1 hjx hP hQ
  · rw [addC_new] at hjx; omega
theorem Form.new (N : List Nd) (c : Nat → Nat) (hc : ∀ i, i < N.length → c i < N.length) (p : Nd) : Form (N ++ [p]) (addC N.length c) N.length N.length := by
  refine ⟨by simp, addC_new, fun j P Q hj hjx hP hQ => ?_⟩
  rcases snoc_at hj with ⟨h0, h1⟩ | ⟨rfl, rfl⟩
  · rw [addC_old h0] at hjx
    have := hc j h0; omega
  · rw [hj] at hQ; injection hQ with e; rw [← e]; exact hP
theorem Forest.add {n : Nat} {l : List Nat} {c d : Nat → Nat} (h : Forest n (par l) c d) (hl : l.length = n) : Forest (n + 1) (par (l ++ [n])) (addC n c) (fun i => if i = n then 0 else d i) := by
  have hp : ∀ i, i < n → par (l ++ [n]) i = par l i := fun i hi => by rw [par_append, if_neg (by omega)]
  have hn : par (l ++ [n]) n = n := by rw [par_append, if_pos hl.symm]
  refine ⟨fun i hi => ?_, fun i hi => ?_, fun i hi hpi => ?_, fun i hi hpi => ?_⟩
  · by_cases e : i = n
    · subst e; rw [hn]; omega
    · rw [hp i (by omega)]; have := h.lt i (by omega); omega
  · by_cases e : i = n
    · subst e; rw [hn]
    · have := h.lt i (by omega)
      rw [hp i (by omega), addC_old this, addC_old (by omega)]; exact h.same i (by omega)
  · by_cases e : i = n
    · subst e; exact addC_new
    · rw [hp i (by omega)] at hpi
      rw [addC_old (by omega)]; exact h.root i (by omega) hpi
  · by_cases e : i = n
    · subst e; exact absurd hn hpi
    · have h1 := h.lt i (by omega)
      rw [hp i (by omega)] at hpi ⊢
      simp only [if_neg e, if_neg (show ¬ par l i = n by omega)]
      exact h.fall i (by omega) hpi
theorem Ok.new : Ok ⟨[], [], [], []⟩ (fun i => i) (fun _ => 0) := by
  refine ⟨⟨rfl, rfl, rfl, fun i p h => by simp at h, ⟨fun i h => ?_, fun i h => ?_, fun i h => ?_, fun i h => ?_⟩, fun x h => ?_, fun i h => ?_⟩, fun i j p q h => by simp at h, ⟨fun i => i, fun i j h => ?_, fun i p h => by simp at h⟩⟩ <;> (simp at h)
theorem Ok.add {S : PS} {c d : Nat → Nat} (h : Ok S c d) (p : Nd) (ha : ∀ a ∈ p.args, a < S.nodes.length) (hk : p.kind = 1 → p.args = []) : Ok (S.add p) (addC S.nodes.length c) (fun i => if i = S.nodes.length then 0 else d i) := by
  have hlen : (S.add p).nodes.length = S.nodes.length + 1 := by simp [PS.add]
  have hc : ∀ i, i < S.nodes.length → c i < S.nodes.length := fun i hi => (h.inv.root i hi).1
  have hpa : ∀ i, i < S.nodes.length → par (S.above ++ [S.nodes.length]) i = par S.above i := fun i hi => by rw [par_append, if_neg (by have := h.inv.la; omega)]
  have hpn : par (S.above ++ [S.nodes.length]) S.nodes.length = S.nodes.length := by rw [par_append, if_pos h.inv.la.symm]
  refine ⟨⟨?_, ?_, ?_, h.inv.wf.add p ha hk, ?_, fun x hx hcx => ?_, fun i hi => ?_⟩, h.closed.add h.inv.wf hc p ha, h.acyc.add h.inv.wf hc p ha⟩
  · simp [PS.add, h.inv.la]
  · simp [PS.add, h.inv.lr]
  · simp [PS.add, h.inv.lf]
  · rw [hlen]; exact h.inv.forest.add h.inv.la
  · rw [hlen] at hx
    simp only [PS.add]
    by_cases e : x = S.nodes.length
    · subst e
      rw [par_append, if_pos h.inv.lf.symm]
      exact Form.new _ _ hc p
    · rw [addC_old (by omega)] at hcx
      rw [par_append, if_neg (by have := h.inv.lf; omega)]
      exact (h.inv.forms x (by omega) hcx).add (by omega) p
  · rw [hlen] at hi ⊢
    simp only [PS.add]
    have hnr : nroots (par (S.above ++ [S.nodes.length])) (S.nodes.length + 1) = nroots (par S.above) S.nodes.length + 1 := by
      rw [nroots, if_pos hpn, nroots_congr _ _ _ hpa]
    rw [hnr]
    by_cases e : i = S.nodes.length
    · subst e
      have h0 : par (S.ranks ++ [0]) S.nodes.length = 0 := by rw [par_append, if_pos h.inv.lr.symm]
      rw [h0]
      have := nroots_le (par S.above) S.nodes.length; omega
    · rw [par_append, if_neg (by have := h.inv.lr; omega)]
      have := h.inv.ranks i (by omega); omega
end Go.Proofs.Ytafpbdmggnfdnaa
