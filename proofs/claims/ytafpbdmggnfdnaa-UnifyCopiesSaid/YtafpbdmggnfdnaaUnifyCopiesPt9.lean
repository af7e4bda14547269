/- Part 9 of the proof of UnifyCopies: what follows was kept as these texts: TypesOf, TypesNo, PlainAdd, Live, PlainRef. -/
import Derived.Test.YtafpbdmggnfdnaaUnifyCopiesPt1
import Derived.Test.YtafpbdmggnfdnaaUnifyCopiesPt2
import Derived.Test.YtafpbdmggnfdnaaUnifyCopiesPt3
import Derived.Test.YtafpbdmggnfdnaaUnifyCopiesPt4
import Derived.Test.YtafpbdmggnfdnaaUnifyCopiesPt5
import Derived.Test.YtafpbdmggnfdnaaUnifyCopiesPt6
import Derived.Test.YtafpbdmggnfdnaaUnifyCopiesPt7
import Derived.Test.YtafpbdmggnfdnaaUnifyCopiesPt8
/- The program's store: Types. -/
namespace Go.Proofs.Ytafpbdmggnfdnaa
open Go.RowKit Go.Shelf Go.Maps
set_option linter.unusedVariables false
attribute [local go_sem] Oper.semAt_some

theorem leaves_marks_res {P : Program} {n : Nat} {fn : Func} {tmps : Array Value} {R : Ending → World → Prop} {v : Value} (Ds : List Nat) : ∀ (W : World), Marked Ds W → (∀ W', Only (fun b => b ∈ Ds) W W' → (results fn tmps).run P W' = .ok v W' ∧ R (.returned v) W') → LeavesInM Fence.wide n P fn tmps R (marks Ds) .returning W := by
  induction Ds with
  | nil =>
    intro W _ hR
    exact ⟨v, (hR W (Only.refl _ _)).1, (hR W (Only.refl _ _)).2⟩
  | cons D Ds ih =>
    intro W hm hR
    have hnd := List.nodup_cons.1 hm.nodup
    refine ⟨by simp, .inl ⟨D, _, rfl, run_takeDeferred (hm.at_ D List.mem_cons_self), ih _ ⟨hnd.2, fun E hE => ?_⟩ (fun W' ho => hR W' ?_)⟩⟩
    · exact ((only_put (l := D) _).block E (hm.lt E (List.mem_cons_of_mem _ hE)) (by rintro rfl; exact hnd.1 hE)).trans (hm.at_ E (List.mem_cons_of_mem _ hE))
    · exact ((only_put (l := D) _).mono fun b _ e => by rw [e]; exact List.mem_cons_self).then_ ho (fun b hb _ => List.mem_cons_of_mem _ hb)

theorem addNew_len (acc vs : List Nat) : (addNew acc vs).length ≤ acc.length + vs.length := by
  unfold addNew
  induction vs generalizing acc with
  | nil => simp
  | cons v vs ih =>
    rw [List.foldl_cons]
    split
    · have := ih acc; simp; omega
    · have := ih (acc ++ [v]); simp at this ⊢; omega
theorem Fo.vars_len (T : Fo) : T.vars.length ≤ T.cnt := by
  induction T with
  | nil => simp [Fo.vars]
  | var n r ih => simp [Fo.vars, Fo.cnt]; omega
  | con k m a r iha ih => simp [Fo.vars, Fo.cnt]; omega
theorem Stands.cnt_le {N : List Nd} {c F : Nat → Nat} {ns : List Nat} : ∀ {T : Fo}, Stands N c F ns T → (∀ x ∈ ns, ∀ B, Stands N c F [x] B → B.cnt ≤ 300) → T.cnt ≤ 300 * ns.length := by
  induction ns with
  | nil => intro T h _; cases h; simp [Fo.cnt]
  | cons x xs ih =>
    intro T h hs
    obtain ⟨A, B, rfl, h1, h2⟩ := h.cons_split
    have h3 := hs x List.mem_cons_self A h1
    have h4 := ih h2 (fun y hy => hs y (List.mem_cons_of_mem _ hy))
    rw [Fo.cnt_app, List.length_cons]; omega
theorem prefix_nodup {pre Y : List Nat} {x : Nat} (h : pre ++ [x] <+: Y) (hn : Y.Nodup) : x ∉ pre ∧ x ∈ Y := by
  have h1 : (pre ++ [x]).Nodup := hn.sublist h.sublist
  rw [List.nodup_append] at h1
  refine ⟨fun hx => h1.2.2 x hx x (by simp) rfl, h.subset (by simp)⟩

/-- The iterator, made. -/
theorem variables_call (g : Nat) (A : Option Addr) (len cap : Nat) (w : World) :
    Calls Try.prog 41 #[.pointer (some ⟨g, 0, none⟩), .slice A len cap] w fun e w' => e = .returned (.func (.func 61) #[] #[.pointer (some ⟨w.heap.size + 1, 0, none⟩), .pointer (some ⟨w.heap.size, 0, none⟩)]) ∧ w' = (w.alloc (.cells #[.pointer (some ⟨g, 0, none⟩)] 26)).alloc (.cells #[.slice A len cap] 30) := by
  go_enter Try.func41, Try.ntmps41
  go_wp2
  go_ret
  exact ⟨by simp, rfl⟩

/-- .. as a contract of an iterator. -/
theorem variables_seq {base : Nat} {L : Lay} {S : PS} {c d : Nat → Nat} (hi : Ok S c d) (n : Nat) (hn : 3 ≤ n) (bn bs : Nat) (Fp : Nat → Prop) (A : Option Addr) (cap : Nat) (ns : List Nat) (hns : ∀ x ∈ ns, x < S.nodes.length) (hlen : ns.length ≤ 1000000) (T : Fo) (hT : Stands S.nodes c (par S.forms) ns T)
    (w : World) (hst : St w base L S) (hFp : ∀ b, Fp b → b < w.heap.size ∧ ¬ L.fp b ∧ b ≠ bn ∧ b ≠ bs ∧ (ns ≠ [] → ∀ a, A = some a → a.block ≠ b) ∧ ∀ (i : Nat) (a : Option Addr × Nat), L.ad[i]? = some a → ∀ x, a.1 = some x → x.block ≠ b)
    (hB : w.cell? ⟨bn, 0, none⟩ = some (.slice A ns.length cap)) (hS : w.cell? ⟨bs, 0, none⟩ = some (.pointer (some ⟨L.g, 0, none⟩))) (hc : Nats w A ns) :
    SeqZ n Try.prog 61 #[.pointer (some ⟨bn, 0, none⟩), .pointer (some ⟨bs, 0, none⟩)] (fun v : Nat => #[.int .i64 (v : Int)]) Fp (addNew [] T.vars) w := by
  intro l J Jx W hb hJ hJx hY h0
  obtain ⟨g, V⟩ := hi.varsOf
  have hBl := World.block_lt_of_cell? w _ hB
  have hSl := World.block_lt_of_cell? w _ hS
  rw [← hT.vars_eq] at hY ⊢
  exact variables1_in (base := base) (L := L) hi n hn l bn bs Fp A cap ns hns hlen g _ V J Jx W (hst.later hb) (fun b hf => ⟨Nat.lt_of_lt_of_le (hFp b hf).1 hb.size, (hFp b hf).2⟩) hJ hJx hY ((hb.cell (p := ⟨bn, 0, none⟩) hBl).trans hB) ((hb.cell (p := ⟨bs, 0, none⟩) hSl).trans hS) (Ints.below hc hb) h0

/-- Types of known nodes of a fit size: new types, numbered as they come. -/
def TypesPost (w : World) (n : Nat) (F : Fo) (e : Ending) (w' : World) : Prop :=
  ∃ A c, e = .returned (.tuple #[.slice A n c, .int .i64 0]) ∧ FoAt w' (fun b => w.heap.size ≤ b ∧ b < w'.heap.size) A F ∧ Below w.heap.size w w'

set_option maxRecDepth 100000 in
set_option maxHeartbeats 4000000 in
theorem types_any {w : World} {base : Nat} {L : Lay} {S : PS} {c d : Nat → Nat} (h : St w base L S) (hi : Ok S c d) (A : Option Addr) (cap : Nat) (ns : List Nat) (hA : Nats w A ns) (hns : ∀ x ∈ ns, x < S.nodes.length) (hlen : ns.length ≤ 1000000)
    (T : Fo) (hT : Stands S.nodes c (par S.forms) ns T) (hsz : ∀ x ∈ ns, ∀ B, Stands S.nodes c (par S.forms) [x] B → B.cnt ≤ 300) :
    Calls Try.prog 15 #[.pointer (some ⟨L.g, 0, none⟩), .slice A ns.length cap] w (TypesPost w ns.length (ren T)) := by
  have hall : allIn S.nodes.length (cast ns) = true := by
    unfold allIn cast
    rw [List.all_eq_true]
    intro x hx
    obtain ⟨y, hy, rfl⟩ := List.mem_map.1 hx
    have := hns y hy
    simp; omega
  have HK := hide (callsIn_wide (n := 4) |>.2 (known_any h A cap (cast ns) hA (by simp [cast]; exact hlen)))
  rw [hall, show (cast ns).length = ns.length by simp [cast]] at HK
  have hmm := @run_makeMap Try.prog
  have Hi := hide hi; have Hst := hide h; have HA := hide hA; have Hns := hide hns; have HT := hide hT; have Hsz := hide hsz
  have hm := h.many
  clear hall hi h hA hns hT hsz
  refine (callsIn_wide (n := 5)).1 ?_
  refine callsIn_of_wp_marks Try.func15 rfl trivial ?_ rfl
  simp only [Try.ntmps15, List.size_toArray, List.length_cons, List.length_nil, Nat.reduceAdd, Nat.reduceSub, Array.replicate_succ, Array.replicate_zero, List.push_toArray, List.append_toArray, List.nil_append, List.cons_append]
  gi_wp2_with fail
  refine ⟨trivial, HK.out.mono ?_⟩
  rintro e w1 ⟨rfl, rfl⟩
  gi_wp2
  gi_loopw [19] (fun i wr => ∃ k : Nat, i = .int .i64 (k : Int) ∧ k ≤ ns.length ∧ Hid (Below w.heap.size w wr)) (fun i _ => ns.length - (intOf i).toNat)
  case atStart => exact ⟨0, rfl, by omega, hide (Below.refl _ _)⟩
  case round =>
    obtain ⟨k, rfl, hk, HB⟩ := hrel
    by_cases hlt : k < ns.length
    · obtain ⟨b, off, hAe, hb, d0⟩ := HA.out.at_ k (by simpa [cast] using hlt)
      simp only [cast, List.getElem_map] at d0
      obtain ⟨x, hx⟩ : ∃ x, ns[k] = x := ⟨_, rfl⟩
      rw [hx] at d0
      have e0 := (HB.out.cell (p := ⟨b, off + k, none⟩) hb).trans d0
      have hxm : x ∈ ns := by rw [← hx]; exact List.getElem_mem _
      have hxn := Hns.out x hxm
      obtain ⟨B, hB⟩ := Hi.out.stands [x] (by simpa using hxn)
      have hBc := Hsz.out x hxm B hB
      have hcap : capped B.cnt = B.cnt := by unfold capped; rw [if_pos hBc]
      have HZ := hide (callsIn_wide (n := 4) |>.2 (size_any (Hst.out.later HB.out) Hi.out x hxn B hB))
      rw [hcap] at HZ
      simp only [hAe]
      have HAe := hide hAe
      clear hAe d0 hx hcap
      gi_wp2_with fail
      refine ⟨trivial, HZ.out.mono ?_⟩
      rintro e w2 ⟨rfl, hb2⟩
      have kk : decide ((300 : Int) < (B.cnt : Int)) = false := by simp; omega
      have HB2 := hide (HB.out.trans (hb2.mono HB.out.size))
      clear hb2 HZ
      gi_wp2
      go_roundw
      case rel => exact ⟨k + 1, by go_num, by omega, HB2.out⟩
      case measure => simp [intOf]; omega
    · gi_wp2_with fail
      obtain rfl : k = ns.length := by omega
      refine ⟨trivial, (callsIn_wide.2 (variables_call L.g A ns.length cap _)).mono ?_⟩
      rintro e w3 ⟨rfl, rfl⟩
      simp only [World.size_alloc]
      gi_wp2_with fail
      obtain ⟨Wv, hWv⟩ : ∃ Wv, ((((wr.alloc (Obj.map #[] 0)).alloc (Obj.cells #[.map (some wr.heap.size)] 76)).alloc (.cells #[.pointer (some ⟨L.g, 0, none⟩)] 26)).alloc (.cells #[.slice A ns.length cap] 30)) = Wv := ⟨_, rfl⟩
      have hbv : Below wr.heap.size wr Wv := by rw [← hWv]; exact ((((Below.refl _ _).alloc (Nat.le_refl _) _).alloc (by simp only [World.size_alloc]; omega) _).alloc (by simp only [World.size_alloc]; omega) _).alloc (by simp only [World.size_alloc]; omega) _
      have hzv : Wv.heap.size = wr.heap.size + 4 := by rw [← hWv]; simp
      have hmv : MapOn Wv wr.heap.size 0 0 (fun _ => none) := (MapOn.new wr).keep (by rw [← hWv]; rw [Below.heap_alloc _ _ _ (by simp only [World.size_alloc]; omega), Below.heap_alloc _ _ _ (by simp only [World.size_alloc]; omega), Below.heap_alloc _ _ _ (by simp only [World.size_alloc]; omega)])
      have hbb : Wv.heap[wr.heap.size + 1]? = some (.cells #[.map (some wr.heap.size)] 76 (0, 0)) := by
        rw [← hWv, Below.heap_alloc _ _ _ (by simp only [World.size_alloc]; omega), Below.heap_alloc _ _ _ (by simp only [World.size_alloc]; omega)]
        have := heap_alloc_new (wr.alloc (Obj.map #[] 0)) (Obj.cells #[.map (some wr.heap.size)] 76)
        rwa [World.size_alloc] at this
      have hbs : Wv.cell? ⟨wr.heap.size + 2, 0, none⟩ = some (.pointer (some ⟨L.g, 0, none⟩)) := by
        have h1 := heap_alloc_new ((wr.alloc (Obj.map #[] 0)).alloc (Obj.cells #[.map (some wr.heap.size)] 76)) (.cells #[.pointer (some ⟨L.g, 0, none⟩)] 26)
        simp only [World.size_alloc] at h1
        have h2 : Wv.heap[wr.heap.size + 2]? = some (.cells #[.pointer (some ⟨L.g, 0, none⟩)] 26 (0, 0)) := by rw [← hWv, Below.heap_alloc _ _ _ (by simp only [World.size_alloc]; omega)]; exact h1
        rw [cell_of_row _ _ _ _ _ _ h2]; rfl
      have hbn : Wv.cell? ⟨wr.heap.size + 3, 0, none⟩ = some (.slice A ns.length cap) := by
        have h1 := heap_alloc_new (((wr.alloc (Obj.map #[] 0)).alloc (Obj.cells #[.map (some wr.heap.size)] 76)).alloc (.cells #[.pointer (some ⟨L.g, 0, none⟩)] 26)) (.cells #[.slice A ns.length cap] 30)
        simp only [World.size_alloc] at h1
        have h2 : Wv.heap[wr.heap.size + 3]? = some (.cells #[.slice A ns.length cap] 30 (0, 0)) := by rw [← hWv]; exact h1
        rw [cell_of_row _ _ _ _ _ _ h2]; rfl
      have HBv := hide (HB.out.trans (hbv.mono HB.out.size))
      have hwr : w.heap.size ≤ wr.heap.size := HB.out.size
      have hstv := Hst.out.later HBv.out
      have hAv : Nats Wv A ns := Ints.below HA.out HBv.out
      have hAl : ∀ a, A = some a → ns ≠ [] → a.block < w.heap.size := by
        intro a ha hne
        obtain ⟨b, off, e1, hb, -⟩ := HA.out (by simpa [cast] using hne)
        rw [ha] at e1; injection e1 with e1; rw [e1]; exact hb
      have hYn : (addNew [] T.vars).Nodup := addNew_nodup _ _ List.nodup_nil
      have hYl : (addNew [] T.vars).length ≤ 300000000 := by
        have h1 := addNew_len [] T.vars
        have h2 := T.vars_len
        have h3 := HT.out.cnt_le Hsz.out
        simp at h1; omega
      have hYv : ∀ v ∈ addNew [] T.vars, v < S.nodes.length := fun v hv => (HT.out.roots Hi.out.inv.wf Hi.out.roots Hns.out v (by simpa using (addNew_mem _ _ _).1 hv)).1
      simp only [hWv]
      clear hWv hbv HB HK
      generalize hm0 : wr.heap.size = m0 at *
      clear hm0
      have old : Older L w.heap.size := Hst.out.older
      refine wpZ_rangeFunc (gf := 61) (lb := #[.pointer (some ⟨m0 + 1 + 1 + 1, 0, none⟩), .pointer (some ⟨m0 + 1 + 1, 0, none⟩)]) (by omega) rfl (enters_of Try.func61 (by kernel_rfl) rfl)
        (Fp := fun b1 => b1 = m0) (variables_seq Hi.out 4 (by omega) _ _ _ A cap ns Hns.out hlen T HT.out Wv hstv ?hFp hbn hbs hAv) (fun _ => rfl) (by rintro b1 rfl; omega)
        (fun pre Mz Wx => MapOn Wx m0 pre.length pre.length (numAt pre) ∧ Only (fun b1 => b1 = m0 ∨ Wv.heap.size ≤ b1) Wv Wx) (fun _ _ _ => False) ?hI (fun _ _ _ _ h => h.elim) ⟨by rw [numAt_nil]; exact hmv, Only.refl _ _⟩ ?a1 ?assign ?body ?done (fun _ _ _ _ _ h => h.elim)
      case hFp =>
        rintro b1 rfl
        refine ⟨by omega, fun hf => by have := old.fp _ hf; omega, by omega, by omega, fun hne a ha => by have := hAl a ha hne; omega, fun i a ha x hx => by have := old.ad i a ha x hx; omega⟩
      case hI =>
        rintro pre Mz Wa Wb ⟨h1, h2⟩ ho
        exact ⟨h1.keep (ho.block _ h1.lt (fun hb => by omega)), h2.then_ ho (fun b1 hb _ => .inr hb.1)⟩
      case assign =>
        rintro l' x Wx K hK
        gi_wp2
        exact hK
      case body =>
        rintro l' pre x Mz Wx hpre hszx hMz ⟨hmx, hox⟩
        obtain ⟨hxp, hxY⟩ := prefix_nodup hpre hYn
        have hxn := hYv x hxY
        have hpl : pre.length + 1 ≤ 300000000 := by have := hpre.length_le; simp at this; omega
        have cbx : Wx.cell? ⟨m0 + 1, 0, none⟩ = some (.map (some m0)) := by
          rw [cell_of_row _ _ _ _ _ _ ((hox.block (m0 + 1) (by omega) (by omega)).trans hbb)]; rfl
        have Hmx := hide hmx
        have Hnum : Hid (numAt pre x = none) := hide (by simp [numAt, hxp])
        clear hmx
        gi_wp2_with (first | (gi_at_len; refine wpListIn_on_len rfl (.tmp 35) rfl m0 pre.length pre.length (numAt pre) rfl Hmx.out ?_) | (gi_at_mapUpdate; refine wpListIn_on_set rfl (.tmp 33) (.tmp 34) (.tmp 36) rfl m0 pre.length pre.length (numAt pre) rfl Hmx.out (by omega) x pre.length rfl rfl (by omega) (by omega) ?_; intro W4 M4 hg4))
        rw [Hnum.out] at M4
        have ho4 : Only (fun b1 => b1 = m0) Wx W4 := (only_of_grown hg4).mono fun b1 _ e => by injection e with e; exact e.symm
        refine ⟨⟨Mz, ⟨?_, hox.then_ ho4 (fun b1 hb _ => .inl hb)⟩, fun b1 hb => .inl hb⟩, ho4.mono fun b1 _ e => .inl e⟩
        have e1 : updO (numAt pre) x (some pre.length) = numAt (pre ++ [x]) := by
          funext v
          rw [numAt_snoc pre x hxp]; rfl
        rw [← e1, List.length_append]
        simpa using M4
      case done =>
        rintro Mz Wx hszx hMz ⟨hmx, hox⟩ hK
        have hbb' : Wx.heap[m0 + 1]? = some (.cells #[.map (some m0)] 76 (0, 0)) := (hox.block (m0 + 1) (by omega) (by omega)).trans hbb
        have hstx : St Wx base L S := hstv.only hox (fun b1 hb _ hf => by have := old.fp _ hf; omega) (fun i a ha x hx hb => by have := old.ad i a ha x hx; omega)
        have HBx : Hid (Below w.heap.size w Wx) := hide (Only.below_trans HBv.out hox (fun i _ hb => by omega) (by omega))
        obtain ⟨i4, ki, kz0, kz1, kz2⟩ := info_parts tyInfo
        have Ki := hide ki; have Kz0 := hide kz0; have Kz1 := hide kz1; have Kz2 := hide kz2
        obtain ⟨num, hnum0⟩ : ∃ num, (fun v => (numAt (addNew [] T.vars) v).getD 0) = num := ⟨_, rfl⟩
        have Hnum0 := hide hnum0
        have HT0 : Hid (TRel Wx S c num ns T (.slice none 0 0) 0 Wx) := hide ⟨Below.refl _ _, .nil, T, [], rfl, .nil, by simpa using HT.out, World.ownsRow_nil _ _ _ _, rfl⟩
        have Hstx := hide hstx; have Hmx := hide hmx; have HK2 := hide hK; have Hbb := hide hbb'
        have hwx : w.heap.size + 4 < Wx.heap.size := by omega
        have hz1 : m0 + 4 ≤ Wv.heap.size := by omega
        have hz2 : Wv.heap.size ≤ m0 + 4 := by omega
        clear hzv hnum0 ki kz0 kz1 kz2 hstx hmx hK hbb' hox hmv hbb hbs hbn HBv hstv hAv
        gi_wp2
        gi_loopw [10, 39] (fun va vj wj => ∃ j : Nat, vj = .int .i64 j ∧ j ≤ ns.length ∧ TRel Wx S c num ns T va j wj) (fun _ vj _ => ns.length - (intOf vj).toNat)
        case atStart => exact ⟨0, rfl, by omega, HT0.out⟩
        case round =>
          obtain ⟨j, rfl, hj, R⟩ := hrel
          clear HT0
          have hnum := Hnum0.out
          have HM2 : Hid (MapIs Wx m0 (addNew [] T.vars).length num) := hide (by rw [← hnum]; exact Hmx.out.is)
          by_cases hlt : j < ns.length
          · have hst := Hstx.out.later R.below
            obtain ⟨b1, o1, hb1, hb1l, c1⟩ := HA.out.at_ j (by simpa [cast] using hlt)
            simp only [cast, List.getElem_map] at c1
            obtain ⟨y, hy⟩ : ∃ y, ns[j] = y := ⟨_, rfl⟩
            rw [hy] at c1
            have c1' : wr.cell? ⟨b1, o1 + j, none⟩ = some (.int .i64 (y : Int)) := ((HBx.out.trans (R.below.mono HBx.out.size)).cell (p := ⟨b1, o1 + j, none⟩) hb1l).trans c1
            have hyn : y < S.nodes.length := Hns.out y (by rw [← hy]; exact List.getElem_mem _)
            obtain ⟨Aj, Rj, cs, hsp, hs1, hs2, hown, hfo⟩ := R.parts
            rw [List.drop_eq_getElem_cons hlt, hy, show y :: ns.drop (j + 1) = [y] ++ ns.drop (j + 1) from rfl] at hs2
            obtain ⟨B, R', hRR, hsB, hsR⟩ := hs2.split
            have cbx : wr.cell? ⟨m0 + 1, 0, none⟩ = some (.map (some m0)) := by
              rw [cell_of_row _ _ _ _ _ _ ((R.below.block (m0 + 1) (by omega)).trans Hbb.out)]; rfl
            have HC := hide (callsIn_wide (n := 4) |>.2 (told_any Hi.out m0 (addNew [] T.vars).length num B.cnt y B wr (Nat.le_refl _) hst (HM2.out.keep (R.below.block _ HM2.out.lt)) hyn hsB))
            have Htake : Hid (ns.take (j + 1) = ns.take j ++ [y]) := hide (by rw [List.take_succ_eq_append_getElem hlt, hy])
            have HR := hide R; have Hsp := hide hsp; have Hs1 := hide hs1; have HsB := hide hsB; have HsR := hide hsR; have Hown := hide hown; have Hfo := hide hfo; have HRR := hide hRR
            have HB1 := hide hb1
            have Hnum := hide hnum
            simp only [hb1]
            clear R hsp hs1 hs2 hsB hsR hown hfo hRR hst hy hb1 c1 hnum
            gi_wp2_with fail
            refine ⟨trivial, HC.out.mono ?_⟩
            rintro e W3 ⟨kd, nu, sn, A5, n5, c5, rfl, hfo3, hb3⟩
            have own3 := own_keep Hown.out (fun b hb => hb3.block b (Hown.out.lt b hb).2)
            have hbW : Below Wx.heap.size Wx W3 := HR.out.below.trans (hb3.mono HR.out.below.size)
            have O4 := hide (own3.alloc (.cells #[.int .i64 kd, .int .i64 nu, .string sn, .slice A5 n5 c5] 48))
            have N4 := hide (four_new W3 (.int .i64 kd) (.int .i64 nu) (.string sn) (.slice A5 n5 c5) 48)
            have E4 : Hid (∀ u ∈ [Value.int .i64 kd, .int .i64 nu, .string sn, .slice A5 n5 c5], u.oneCell' = true) := hide (by simp [Value.oneCell'])
            have Hb4 := hide (hbW.alloc hbW.size (.cells #[.int .i64 kd, .int .i64 nu, .string sn, .slice A5 n5 c5] 48))
            have hz4 : Wx.heap.size ≤ W3.heap.size := hbW.size
            have Hb3 := hide hb3; have Hfo3 := hide hfo3
            have hw2 : Wx.heap.size ≤ wr.heap.size := HR.out.below.size
            clear own3 hbW hb3 hfo3 HC
            gi_wp2_with (gi_at_builtin; go_must (refine wpListIn_append_own_at _ rfl (.tmp 43) (.tmp 48) 34 rfl Wx.heap.size 48 i4 (.agg #[.int .i64 0, .int .i64 0, .string ByteArray.empty, .slice none 0 0]) 4 56 Try.underlying34 Ki.out Kz0.out Kz1.out Kz2.out rfl (by decide) u10 j cs rfl O4.out ⟨W3.heap.size, 0, none⟩ 1 1 [.int .i64 kd, .int .i64 nu, .string sn, .slice A5 n5 c5] rfl rfl N4.out E4.out (by simp only [maxLen]; omega) (by omega) (by simp; omega) ?_); intro v6 W6 own6 grow6 nil6 at6; clear nil6)
            go_roundw
            case measure => simp [intOf]; omega
            case rel =>
              refine ⟨j + 1, by go_num, by omega, Hb4.out.grown grow6 (by simp; omega) (fun b e1 => (O4.out.lt b e1).1), Aj.app B, R', cs ++ [.int .i64 kd, .int .i64 nu, .string sn, .slice A5 n5 c5], ?_, ?_, HsR.out, own6, ?_⟩
              · rw [Hsp.out, HRR.out, Fo.app_assoc]
              · rw [Htake.out]; exact Hs1.out.app HsB.out
              · have hs6 := grow6.size
                rw [World.size_alloc] at hs6
                have hsz3 := Hb3.out.size
                have hsz4 : (W3.alloc (.cells #[.int .i64 kd, .int .i64 nu, .string sn, .slice A5 n5 c5] 48)).heap.size = W3.heap.size + 1 := World.size_alloc _ _
                have hcell : ∀ p : Addr, p.block < W3.heap.size → u10.ownBlock ≠ some p.block → W6.cell? p = W3.cell? p := fun p hp hne => (grow6.cell_far p (by rw [hsz4]; omega) (fun e1 => hne e1.symm)).trans (World.cell?_alloc_lt W3 _ p hp)
                have hold : ∀ b, u10.ownBlock = some b → b < wr.heap.size := fun b hb => (Hown.out.lt b hb).2
                have hv6 : ∀ b, b < W3.heap.size → u10.ownBlock ≠ some b → v6.ownBlock ≠ some b := by
                  intro b hb hne e1
                  rcases at6 with e2 | e2
                  · rw [e2] at e1; exact hne e1
                  · rw [e2, hsz4] at e1; injection e1 with e1; omega
                rw [Fo.mapv_app]
                refine FoCells.app _ (FoCells.keep _ Hfo3.out ?_ ?_) (FoCells.keep _ Hfo.out ?_ ?_)
                · intro b hb
                  exact ⟨by omega, by omega, hv6 b hb.2 (fun e1 => by have := hold b e1; omega)⟩
                · intro p hp
                  exact hcell p hp.2 (fun e1 => by have := hold _ e1; omega)
                · intro b hb
                  exact ⟨hb.1, by omega, hv6 b (by omega) hb.2.2⟩
                · intro p hp
                  exact (hcell p (by omega) hp.2.2).trans (Hb3.out.cell hp.2.1)
          · obtain rfl : j = ns.length := by omega
            obtain ⟨Aj, Rj, cs, hsp, hs1, hs2, hown, hfo⟩ := R.parts
            rw [List.drop_length] at hs2
            cases hs2
            rw [Fo.app_nil] at hsp
            subst hsp
            obtain ⟨A6, cap6, hv8, -, -⟩ := own_len hown
            subst hv8
            have HR := hide R; have Hown := hide hown; have Hfo := hide hfo; have Hnum := hide hnum
            clear R hown hfo hs1 hnum
            gi_wp2
            have hbf : Below w.heap.size w wr := HBx.out.trans (HR.out.below.mono HBx.out.size)
            have hml : Wv.heap.size < wr.heap.size := by have := HR.out.below.size; omega
            have hfo9 : FoCells wr (fun b => Wx.heap.size ≤ b ∧ b < wr.heap.size) (T.mapv num) cs := FoCells.keep _ Hfo.out (fun b hb => ⟨hb.1, hb.2.1⟩) (fun p _ => rfl)
            obtain ⟨A7, c7, he7, hat7⟩ := fo_of_own (F := T.mapv num) (by rw [Fo.len_mapv, HT.out.len]; exact Hown.out) hfo9 (fun b hb => Hown.out.lt b hb)
            obtain rfl : A6 = A7 := by injection he7
            refine leaves_marks_res (v := .tuple #[.slice A6 ns.length cap6, .int .i64 0]) [Wv.heap.size] wr ⟨by simp, fun D hD => ?_⟩ fun W' ho => ⟨by simp [results, Try.results15, go_sem], A6, cap6, rfl, ?_, ?_⟩
            · simp at hD; subst hD
              exact (HR.out.below.block _ (by omega)).trans HK2.out
            · rw [← ren_eq, Hnum.out]
              refine hat7.keep (fun b hb => ⟨by omega, Nat.lt_of_lt_of_le hb.2 ho.size⟩) (fun p hp => ho.cell hp.2 ?_)
              simp; omega
            · exact Only.below_trans hbf ho (fun i _ hi => by simp at hi; omega) (by omega)
end Go.Proofs.Ytafpbdmggnfdnaa

/- The program's store: Types where a node is unknown, or too great. -/
namespace Go.Proofs.Ytafpbdmggnfdnaa
open Go.RowKit Go.Shelf Go.Maps
set_option linter.unusedVariables false
attribute [local go_sem] Oper.semAt_some

def TypesNo (w : World) (err : Int) (e : Ending) (w' : World) : Prop := e = .returned (.tuple #[.slice none 0 0, .int .i64 err]) ∧ Below w.heap.size w w'

set_option maxRecDepth 100000 in
set_option maxHeartbeats 4000000 in
theorem types_no {w : World} {base : Nat} {L : Lay} {S : PS} (h : St w base L S) (A : Option Addr) (cap : Nat) (xs : List Int) (hA : Ints w A xs) (hlen : xs.length ≤ 1000000) (hall : allIn S.nodes.length xs = false) :
    Calls Try.prog 15 #[.pointer (some ⟨L.g, 0, none⟩), .slice A xs.length cap] w (TypesNo w 221) := by
  have HK := hide (callsIn_wide (n := 4) |>.2 (known_any h A cap xs hA hlen))
  rw [hall] at HK
  clear hall h hA
  refine (callsIn_wide (n := 5)).1 ?_
  refine callsIn_of_wp_marks Try.func15 rfl trivial ?_ rfl
  simp only [Try.ntmps15, List.size_toArray, List.length_cons, List.length_nil, Nat.reduceAdd, Nat.reduceSub, Array.replicate_succ, Array.replicate_zero, List.push_toArray, List.append_toArray, List.nil_append, List.cons_append]
  gi_wp2_with fail
  refine ⟨trivial, HK.out.mono ?_⟩
  rintro e w1 ⟨rfl, rfl⟩
  gi_wp2
  exact ⟨.tuple #[.slice none 0 0, .int .i64 221], by simp [results, Try.results15, go_sem], rfl, Below.refl _ _⟩

set_option maxRecDepth 100000 in
set_option maxHeartbeats 4000000 in
theorem types_big {w : World} {base : Nat} {L : Lay} {S : PS} {c d : Nat → Nat} (h : St w base L S) (hi : Ok S c d) (A : Option Addr) (cap : Nat) (ns : List Nat) (hA : Nats w A ns) (hns : ∀ x ∈ ns, x < S.nodes.length) (hlen : ns.length ≤ 1000000)
    (hbig : ∃ x ∈ ns, ∃ B, Stands S.nodes c (par S.forms) [x] B ∧ 300 < B.cnt) :
    Calls Try.prog 15 #[.pointer (some ⟨L.g, 0, none⟩), .slice A ns.length cap] w (TypesNo w 120) := by
  have hall : allIn S.nodes.length (cast ns) = true := by
    unfold allIn cast
    rw [List.all_eq_true]
    intro x hx
    obtain ⟨y, hy, rfl⟩ := List.mem_map.1 hx
    have := hns y hy
    simp; omega
  have HK := hide (callsIn_wide (n := 4) |>.2 (known_any h A cap (cast ns) hA (by simp [cast]; exact hlen)))
  rw [hall, show (cast ns).length = ns.length by simp [cast]] at HK
  have Hi := hide hi; have Hst := hide h; have HA := hide hA; have Hns := hide hns; have Hbig := hide hbig
  have hm := h.many
  clear hall hi h hA hns hbig
  refine (callsIn_wide (n := 5)).1 ?_
  refine callsIn_of_wp_marks Try.func15 rfl trivial ?_ rfl
  simp only [Try.ntmps15, List.size_toArray, List.length_cons, List.length_nil, Nat.reduceAdd, Nat.reduceSub, Array.replicate_succ, Array.replicate_zero, List.push_toArray, List.append_toArray, List.nil_append, List.cons_append]
  gi_wp2_with fail
  refine ⟨trivial, HK.out.mono ?_⟩
  rintro e w1 ⟨rfl, rfl⟩
  gi_wp2
  gi_loopw [19] (fun i wr => ∃ k : Nat, i = .int .i64 (k : Int) ∧ k ≤ ns.length ∧ Hid (Below w.heap.size w wr) ∧ Hid (∀ x ∈ ns.take k, ∀ B, Stands S.nodes c (par S.forms) [x] B → B.cnt ≤ 300)) (fun i _ => ns.length - (intOf i).toNat)
  case atStart => exact ⟨0, rfl, by omega, hide (Below.refl _ _), hide (by simp)⟩
  case round =>
    obtain ⟨k, rfl, hk, HB, HFit⟩ := hrel
    by_cases hlt : k < ns.length
    · obtain ⟨b, off, hAe, hb, d0⟩ := HA.out.at_ k (by simpa [cast] using hlt)
      simp only [cast, List.getElem_map] at d0
      obtain ⟨x, hx⟩ : ∃ x, ns[k] = x := ⟨_, rfl⟩
      rw [hx] at d0
      have e0 := (HB.out.cell (p := ⟨b, off + k, none⟩) hb).trans d0
      have hxm : x ∈ ns := by rw [← hx]; exact List.getElem_mem _
      have hxn := Hns.out x hxm
      obtain ⟨B, hB⟩ := Hi.out.stands [x] (by simpa using hxn)
      have HZ := hide (callsIn_wide (n := 4) |>.2 (size_any (Hst.out.later HB.out) Hi.out x hxn B hB))
      have Htake : Hid (ns.take (k + 1) = ns.take k ++ [x]) := hide (by rw [List.take_succ_eq_append_getElem hlt, hx])
      have HSB := hide hB
      simp only [hAe]
      have HAe := hide hAe
      clear hAe d0 hx hB
      by_cases hBc : B.cnt ≤ 300
      · have hcap : capped B.cnt = B.cnt := by unfold capped; rw [if_pos hBc]
        rw [hcap] at HZ
        gi_wp2_with fail
        refine ⟨trivial, HZ.out.mono ?_⟩
        rintro e w2 ⟨rfl, hb2⟩
        have kk : decide ((300 : Int) < (B.cnt : Int)) = false := by simp; omega
        have HB2 := hide (HB.out.trans (hb2.mono HB.out.size))
        clear hb2 HZ
        gi_wp2
        go_roundw
        case rel =>
          refine ⟨k + 1, by go_num, by omega, HB2, hide ?_⟩
          rw [Htake.out]
          intro y hy C hC
          rcases List.mem_append.1 hy with hy | hy
          · exact HFit.out y hy C hC
          · simp at hy; subst hy; rw [hC.unique HSB.out]; exact hBc
        case measure => simp [intOf]; omega
      · have hcap : capped B.cnt = 301 := by unfold capped; rw [if_neg hBc]
        rw [hcap] at HZ
        gi_wp2_with fail
        refine ⟨trivial, HZ.out.mono ?_⟩
        rintro e w2 ⟨rfl, hb2⟩
        have HB2 := hide (HB.out.trans (hb2.mono HB.out.size))
        clear hb2 HZ
        gi_wp2
        exact ⟨.tuple #[.slice none 0 0, .int .i64 120], by simp [results, Try.results15, go_sem], rfl, HB2.out⟩
    · exfalso
      obtain ⟨x, hx, B, hB, hl⟩ := Hbig.out
      have := HFit.out x (by rw [List.take_of_length_le (by omega)]; exact hx) B hB
      omega
end Go.Proofs.Ytafpbdmggnfdnaa

/- Plain: an empty store; a node more. -/
namespace Go.Proofs.Ytafpbdmggnfdnaa
set_option linter.unusedVariables false

/-- A node more: a class of its own. -/
def addC (n : Nat) (c : Nat → Nat) : Nat → Nat := fun i => if i = n then n else c i
theorem addC_old {n : Nat} {c : Nat → Nat} {i : Nat} (h : i < n) : addC n c i = c i := by unfold addC; rw [if_neg (by omega)]
theorem addC_new {n : Nat} {c : Nat → Nat} : addC n c n = n := by unfold addC; rw [if_pos rfl]
theorem snoc_at {N : List Nd} {p q : Nd} {i : Nat} (h : (N ++ [p])[i]? = some q) : (i < N.length ∧ N[i]? = some q) ∨ (i = N.length ∧ q = p) := by
  by_cases hi : i < N.length
  · rw [List.getElem?_append_left hi] at h; exact .inl ⟨hi, h⟩
  · rw [List.getElem?_append_right (by omega)] at h
    by_cases e : i = N.length
    · subst e; simp at h; exact .inr ⟨rfl, h.symm⟩
    · rw [List.getElem?_eq_none (by simp; omega)] at h; cases h
theorem Wf.add {N : List Nd} (h : Wf N) (p : Nd) (ha : ∀ a ∈ p.args, a < N.length) (hk : p.kind = 1 → p.args = []) : Wf (N ++ [p]) := by
  intro i q hq
  rcases snoc_at hq with ⟨_, h1⟩ | ⟨rfl, rfl⟩
  · exact h i q h1
  · exact ⟨ha, hk⟩
theorem Closed.add {N : List Nd} {c : Nat → Nat} (h : Closed N c) (hw : Wf N) (hc : ∀ i, i < N.length → c i < N.length) (p : Nd) (ha : ∀ a ∈ p.args, a < N.length) : Closed (N ++ [p]) (addC N.length c) := by
  have harg : ∀ {i : Nat} {q : Nd}, (N ++ [p])[i]? = some q → ∀ a ∈ q.args, a < N.length := by
    intro i q hq a hx
    rcases snoc_at hq with ⟨h0, h1⟩ | ⟨rfl, rfl⟩
    · have := (hw i q h1).1 a hx; omega
    · exact ha a hx
  intro i j P Q hi hj hij hP hQ
  rcases snoc_at hi with ⟨i0, i1⟩ | ⟨rfl, rfl⟩ <;> rcases snoc_at hj with ⟨j0, j1⟩ | ⟨rfl, rfl⟩
  · rw [addC_old i0, addC_old j0] at hij
    obtain ⟨h1, h2⟩ := h i j P Q i1 j1 hij hP hQ
    refine ⟨h1, fun k a b hka hkb => ?_⟩
    rw [addC_old (harg hi a (List.mem_of_getElem? hka)), addC_old (harg hj b (List.mem_of_getElem? hkb))]
    exact h2 k a b hka hkb
  · rw [addC_old i0, addC_new] at hij
    have := hc i i0; omega
  · rw [addC_old j0, addC_new] at hij
    have := hc j j0; omega
  · refine ⟨⟨rfl, rfl, rfl⟩, fun k a b hka hkb => ?_⟩
    rw [hka] at hkb; injection hkb with e; rw [e]
theorem Acyc.add {N : List Nd} {c : Nat → Nat} (h : Acyc N c) (hw : Wf N) (hc : ∀ i, i < N.length → c i < N.length) (p : Nd) (ha : ∀ a ∈ p.args, a < N.length) : Acyc (N ++ [p]) (addC N.length c) := by
  obtain ⟨g, g1, g2⟩ := h
  obtain ⟨M, hM⟩ : ∃ M, ∀ i, i < N.length → g i < M := by
    generalize N.length = n
    induction n with
    | zero => exact ⟨0, by intro i hi; omega⟩
    | succ n ih =>
      obtain ⟨M, hM⟩ := ih
      refine ⟨max M (g n + 1), fun i hi => ?_⟩
      by_cases e : i = n
      · subst e; omega
      · have := hM i (by omega); omega
  refine ⟨fun i => if i = N.length then M else g i, fun i j hi hj hij => ?_, fun i q hq a hx => ?_⟩
  · simp only [List.length_append, List.length_singleton] at hi hj
    by_cases ei : i = N.length <;> by_cases ej : j = N.length
    · subst ei; subst ej; rfl
    · subst ei; rw [addC_new, addC_old (by omega)] at hij
      have := hc j (by omega); omega
    · subst ej; rw [addC_new, addC_old (by omega)] at hij
      have := hc i (by omega); omega
    · rw [addC_old (by omega), addC_old (by omega)] at hij
      simp only [if_neg ei, if_neg ej]
      exact g1 i j (by omega) (by omega) hij
  · rcases snoc_at hq with ⟨h0, h1⟩ | ⟨rfl, rfl⟩
    · have h2 := (hw i q h1).1 a hx
      simp only [if_neg (show ¬ i = N.length by omega), if_neg (show ¬ a = N.length by omega)]
      exact g2 i q h1 a hx
    · have h2 := ha a hx
      simp only [if_neg (show ¬ a = N.length by omega), if_true]
      exact hM a h2
theorem Form.add {N : List Nd} {c : Nat → Nat} {x f : Nat} (h : Form N c x f) (hx : x < N.length) (p : Nd) : Form (N ++ [p]) (addC N.length c) x f := by
  refine ⟨by have := h.lt; simp; omega, by rw [addC_old h.lt]; exact h.cls, fun j P Q hj hjx hP hQ => ?_⟩
  rw [List.getElem?_append_left h.lt] at hQ
  rcases snoc_at hj with ⟨h0, h1⟩ | ⟨rfl, rfl⟩
  · rw [addC_old h0] at hjx
    exact h.head j P Q h1 hjx hP hQ
  · rw [addC_new] at hjx; omega
theorem Form.new (N : List Nd) (c : Nat → Nat) (hc : ∀ i, i < N.length → c i < N.length) (p : Nd) : Form (N ++ [p]) (addC N.length c) N.length N.length := by
  refine ⟨by simp, addC_new, fun j P Q hj hjx hP hQ => ?_⟩
  rcases snoc_at hj with ⟨h0, h1⟩ | ⟨rfl, rfl⟩
  · rw [addC_old h0] at hjx
    have := hc j h0; omega
  · rw [hj] at hQ; injection hQ with e; rw [← e]; exact hP
theorem Forest.add {n : Nat} {l : List Nat} {c d : Nat → Nat} (h : Forest n (par l) c d) (hl : l.length = n) : Forest (n + 1) (par (l ++ [n])) (addC n c) (fun i => if i = n then 0 else d i) := by
  have hp : ∀ i, i < n → par (l ++ [n]) i = par l i := fun i hi => by rw [par_append, if_neg (by omega)]
  have hn : par (l ++ [n]) n = n := by rw [par_append, if_pos hl.symm]
  refine ⟨fun i hi => ?_, fun i hi => ?_, fun i hi hpi => ?_, fun i hi hpi => ?_⟩
  · by_cases e : i = n
    · subst e; rw [hn]; omega
    · rw [hp i (by omega)]; have := h.lt i (by omega); omega
  · by_cases e : i = n
    · subst e; rw [hn]
    · have := h.lt i (by omega)
      rw [hp i (by omega), addC_old this, addC_old (by omega)]; exact h.same i (by omega)
  · by_cases e : i = n
    · subst e; exact addC_new
    · rw [hp i (by omega)] at hpi
      rw [addC_old (by omega)]; exact h.root i (by omega) hpi
  · by_cases e : i = n
    · subst e; exact absurd hn hpi
    · have h1 := h.lt i (by omega)
      rw [hp i (by omega)] at hpi ⊢
      simp only [if_neg e, if_neg (show ¬ par l i = n by omega)]
      exact h.fall i (by omega) hpi
theorem Ok.new : Ok ⟨[], [], [], []⟩ (fun i => i) (fun _ => 0) := by
  refine ⟨⟨rfl, rfl, rfl, fun i p h => by simp at h, ⟨fun i h => ?_, fun i h => ?_, fun i h => ?_, fun i h => ?_⟩, fun x h => ?_, fun i h => ?_⟩, fun i j p q h => by simp at h, ⟨fun i => i, fun i j h => ?_, fun i p h => by simp at h⟩⟩ <;> (simp at h)
theorem Ok.add {S : PS} {c d : Nat → Nat} (h : Ok S c d) (p : Nd) (ha : ∀ a ∈ p.args, a < S.nodes.length) (hk : p.kind = 1 → p.args = []) : Ok (S.add p) (addC S.nodes.length c) (fun i => if i = S.nodes.length then 0 else d i) := by
  have hlen : (S.add p).nodes.length = S.nodes.length + 1 := by simp [PS.add]
  have hc : ∀ i, i < S.nodes.length → c i < S.nodes.length := fun i hi => (h.inv.root i hi).1
  have hpa : ∀ i, i < S.nodes.length → par (S.above ++ [S.nodes.length]) i = par S.above i := fun i hi => by rw [par_append, if_neg (by have := h.inv.la; omega)]
  have hpn : par (S.above ++ [S.nodes.length]) S.nodes.length = S.nodes.length := by rw [par_append, if_pos h.inv.la.symm]
  refine ⟨⟨?_, ?_, ?_, h.inv.wf.add p ha hk, ?_, fun x hx hcx => ?_, fun i hi => ?_⟩, h.closed.add h.inv.wf hc p ha, h.acyc.add h.inv.wf hc p ha⟩
  · simp [PS.add, h.inv.la]
  · simp [PS.add, h.inv.lr]
  · simp [PS.add, h.inv.lf]
  · rw [hlen]; exact h.inv.forest.add h.inv.la
  · rw [hlen] at hx
    simp only [PS.add]
    by_cases e : x = S.nodes.length
    · subst e
      rw [par_append, if_pos h.inv.lf.symm]
      exact Form.new _ _ hc p
    · rw [addC_old (by omega)] at hcx
      rw [par_append, if_neg (by have := h.inv.lf; omega)]
      exact (h.inv.forms x (by omega) hcx).add (by omega) p
  · rw [hlen] at hi ⊢
    simp only [PS.add]
    have hnr : nroots (par (S.above ++ [S.nodes.length])) (S.nodes.length + 1) = nroots (par S.above) S.nodes.length + 1 := by
      rw [nroots, if_pos hpn, nroots_congr _ _ _ hpa]
    rw [hnr]
    by_cases e : i = S.nodes.length
    · subst e
      have h0 : par (S.ranks ++ [0]) S.nodes.length = 0 := by rw [par_append, if_pos h.inv.lr.symm]
      rw [h0]
      have := nroots_le (par S.above) S.nodes.length; omega
    · rw [par_append, if_neg (by have := h.inv.lr; omega)]
      have := h.inv.ranks i (by omega); omega
end Go.Proofs.Ytafpbdmggnfdnaa

/- A store of the program's, with all that is its own in memory: what each call answers and what it leaves. -/
namespace Go.Proofs.Ytafpbdmggnfdnaa
open Go.RowKit
set_option linter.unusedVariables false

/-- At address g lies a store of these nodes with these classes; all that it may write or must read lies in M. -/
structure Live (M : Nat → Prop) (g : Nat) (N : List Nd) (c : Nat → Nat) (w : World) : Prop where
  out : ∃ L S d, L.g = g ∧ St w 0 L S ∧ S.nodes = N ∧ Ok S c d ∧ (∀ b, L.fp b → M b) ∧ ∀ (i : Nat) (a : Option Addr × Nat), L.ad[i]? = some a → ∀ x, a.1 = some x → M x.block
  lt : ∀ b, M b → b < w.heap.size
/-- What was new behind w. -/
def more (M : Nat → Prop) (w w' : World) : Nat → Prop := fun b => M b ∨ (w.heap.size ≤ b ∧ b < w'.heap.size)
theorem St.base0 {w : World} {base : Nat} {L : Lay} {S : PS} (h : St w base L S) : St w 0 L S := ⟨h.blk, Nat.zero_le _, own_base h.nodes (Nat.zero_le _), own_base h.above (Nat.zero_le _), own_base h.ranks (Nat.zero_le _), own_base h.forms (Nat.zero_le _), h.ar, h.af, h.rf, h.ad, h.args, h.many, h.few⟩
section
variable {M F : Nat → Prop} {g : Nat} {N : List Nd} {c : Nat → Nat} {w w' : World}
theorem Live.keep (h : Live M g N c w) (ho : Only F w w') (hF : ∀ b, F b → ¬ M b) : Live M g N c w' := by
  obtain ⟨⟨L, S, d, h1, h2, h3, h4, h5, h6⟩, h7⟩ := h
  exact ⟨⟨L, S, d, h1, h2.only ho (fun b hb _ hf => hF b hb (h5 b hf)) (fun i a ha x hx hf => hF _ hf (h6 i a ha x hx)), h3, h4, h5, h6⟩, fun b hb => Nat.lt_of_lt_of_le (h7 b hb) ho.size⟩
theorem Live.below (h : Live M g N c w) (hb : Below w.heap.size w w') : Live M g N c w' := h.keep (Only.of_below hb (fun _ => False)) (fun _ hf => hf.elim)
theorem Live.many (h : Live M g N c w) : N.length ≤ 1000000 := by
  obtain ⟨⟨L, S, d, h1, h2, rfl, h4, h5, h6⟩, h7⟩ := h
  exact h2.many
theorem Live.wf (h : Live M g N c w) : Wf N := by
  obtain ⟨⟨L, S, d, h1, h2, rfl, h4, h5, h6⟩, h7⟩ := h
  exact h4.inv.wf
theorem Live.closed (h : Live M g N c w) : Closed N c := by
  obtain ⟨⟨L, S, d, h1, h2, rfl, h4, h5, h6⟩, h7⟩ := h
  exact h4.closed
theorem Live.acyc (h : Live M g N c w) : Acyc N c := by
  obtain ⟨⟨L, S, d, h1, h2, rfl, h4, h5, h6⟩, h7⟩ := h
  exact h4.acyc
theorem Live.roots (h : Live M g N c w) (i : Nat) (hi : i < N.length) : c i < N.length ∧ c (c i) = c i := by
  obtain ⟨⟨L, S, d, h1, h2, rfl, h4, h5, h6⟩, h7⟩ := h
  exact h4.roots i hi
/-- What nodes stand for, by the classes alone: forms are chosen. -/
def TreeOf (N : List Nd) (c : Nat → Nat) (is : List Nat) (T : Fo) : Prop := ∃ F : Nat → Nat, (∀ i, i < N.length → Form N c (c i) (F (c i))) ∧ Stands N c F is T
theorem TreeOf.unique {is : List Nat} {T U : Fo} (hw : Wf N) (hcl : Closed N c) (hc : ∀ i, i < N.length → c i < N.length ∧ c (c i) = c i) (hi : ∀ i ∈ is, i < N.length) (h : TreeOf N c is T) (k : TreeOf N c is U) : T = U := by
  obtain ⟨F, hF, hT⟩ := h
  obtain ⟨F', hF', hU⟩ := k
  have := Stands.same hw hcl (fun _ _ _ _ e => e) (fun _ _ _ _ e => e) hc hF hF' hT is U hi hi rfl (fun k i j h1 h2 => by rw [h1] at h2; injection h2 with e; rw [e]) hU
  rw [this]
  have hr := hT.roots hw hc hi
  have e1 : T.mapv (fun v => v) = T := by
    clear this hr hT hU
    induction T with
    | nil => rfl
    | var n r ih => simp [Fo.mapv, ih]
    | con k m a r iha ih => simp [Fo.mapv, iha, ih]
  rw [Fo.mapv_congr T (g := fun v => v) (fun v hv => (hr v hv).2), e1]
theorem Live.tree (h : Live M g N c w) (is : List Nat) (hi : ∀ i ∈ is, i < N.length) : ∃ T, TreeOf N c is T := by
  obtain ⟨⟨L, S, d, h1, h2, rfl, h4, h5, h6⟩, h7⟩ := h
  obtain ⟨T, hT⟩ := h4.stands is hi
  exact ⟨T, par S.forms, h4.forms, hT⟩
end

section
variable {M : Nat → Prop} {g : Nat} {N : List Nd} {c : Nat → Nat} {w : World}
theorem live_new (w : World) : Calls Try.prog 25 #[] w fun e w' => e = .returned (.pointer (some ⟨w.heap.size, 0, none⟩)) ∧ Live (fun b => b = w.heap.size) w.heap.size [] (fun i => i) w' ∧ Below w.heap.size w w' := by
  refine (new_any w 0 (Nat.zero_le _)).mono ?_
  rintro e w' ⟨rfl, h1, h2⟩
  refine ⟨rfl, ⟨⟨_, _, _, rfl, h1, rfl, Ok.new, ?_, fun i a ha => by simp at ha⟩, ?_⟩, h2⟩
  · rintro b (rfl | hb | hb | hb | hb)
    · rfl
    · cases hb
    · cases hb
    · cases hb
    · cases hb
  · rintro b rfl; exact h1.glt
theorem live_var (h : Live M g N c w) (hm : N.length + 1 ≤ 1000000) : Calls Try.prog 26 #[.pointer (some ⟨g, 0, none⟩)] w fun e w' => e = .returned (.int .i64 (N.length : Int)) ∧ Live (more M w w') g (N ++ [varNd]) (addC N.length c) w' ∧ Only M w w' := by
  obtain ⟨⟨L, S, d, rfl, h2, rfl, h4, h5, h6⟩, h7⟩ := h
  refine (var_any h2 hm).mono ?_
  rintro e w' ⟨rfl, L', k1, k2, k3, k4, k5⟩
  have ho : Only M w w' := k3.mono fun b _ hb => h5 b hb
  refine ⟨rfl, ⟨⟨L', S.add varNd, _, k2, k1, rfl, h4.add varNd (by simp [varNd]) (fun _ => rfl), fun b hb => ?_, fun i a ha x hx => ?_⟩, fun b hb => ?_⟩, ho⟩
  · exact (k4 b hb).imp (h5 b) fun h => ⟨h, (k1.fp_lt b hb).2⟩
  · rcases k5 i a ha with h | h
    · exact .inl (h6 i a h x hx)
    · rw [h] at hx; cases hx
  · rcases hb with hb | hb
    · exact Nat.lt_of_lt_of_le (h7 b hb) ho.size
    · exact hb.2

/-- The error that a making answers. -/
def makeErr (n : Nat) (kind : Int) (name : ByteArray) (xs : List Int) : Int := if allIn n xs = false then 221 else if (kind = 2 ∧ kindL name.toList ≠ 1) ∨ (kind = 3 ∧ xs.length < 2) then 120 else 0
def makeN (N : List Nd) (kind : Int) (name : ByteArray) (xs : List Int) : List Nd := if makeErr N.length kind name xs = 0 then N ++ [⟨kind, name, xs.map Int.toNat⟩] else N
def makeC (N : List Nd) (c : Nat → Nat) (kind : Int) (name : ByteArray) (xs : List Int) : Nat → Nat := if makeErr N.length kind name xs = 0 then addC N.length c else c
def makeV (N : List Nd) (kind : Int) (name : ByteArray) (xs : List Int) : Int := if makeErr N.length kind name xs = 0 then (N.length : Int) else 0
def MakePost (M : Nat → Prop) (g : Nat) (N : List Nd) (c : Nat → Nat) (w : World) (kind : Int) (name : ByteArray) (xs : List Int) (e : Ending) (w' : World) : Prop :=
  e = .returned (.tuple #[.int .i64 (makeV N kind name xs), .int .i64 (makeErr N.length kind name xs)]) ∧ Live (more M w w') g (makeN N kind name xs) (makeC N c kind name xs) w' ∧ Only M w w'
theorem Live.more (h : Live M g N c w) {w' : World} (hb : Below w.heap.size w w') : Live (Go.Proofs.Ytafpbdmggnfdnaa.more M w w') g N c w' := by
  obtain ⟨⟨L, S, d, h1, h2, h3, h4, h5, h6⟩, h7⟩ := h
  refine ⟨⟨L, S, d, h1, h2.later hb, h3, h4, fun b hb => .inl (h5 b hb), fun i a ha x hx => .inl (h6 i a ha x hx)⟩, fun b hb' => ?_⟩
  rcases hb' with hb' | hb'
  · exact Nat.lt_of_lt_of_le (h7 b hb') hb.size
  · exact hb'.2
theorem make_no (h : Live M g N c w) {w' : World} (hb : Below w.heap.size w w') {kind : Int} {name : ByteArray} {xs : List Int} {err : Int} (he : makeErr N.length kind name xs = err) (h0 : err ≠ 0) : MakePost M g N c w kind name xs (.returned (.tuple #[.int .i64 0, .int .i64 err])) w' := by
  unfold MakePost makeV makeN makeC
  rw [he, if_neg h0, if_neg h0, if_neg h0]
  exact ⟨rfl, h.more hb, Only.of_below hb _⟩
theorem make_yes {L : Lay} {S : PS} {d : Nat → Nat} (h2 : St w 0 L S) (h4 : Ok S c d) (h5 : ∀ b, L.fp b → M b) (h6 : ∀ (i : Nat) (a : Option Addr × Nat), L.ad[i]? = some a → ∀ x, a.1 = some x → M x.block) (h7 : ∀ b, M b → b < w.heap.size) {kind : Int} {name : ByteArray} {xs : List Int} (he : makeErr S.nodes.length kind name xs = 0) (hk : allIn S.nodes.length xs = true) (h1 : kind ≠ 1) {e : Ending} {w' : World} (hp : MadePost w 0 L S ⟨kind, name, xs.map Int.toNat⟩ e w') : MakePost M L.g S.nodes c w kind name xs e w' := by
  obtain ⟨rfl, L', k1, k2, k3, k4, k5⟩ := hp
  have ho : Only M w w' := k3.mono fun b _ hb => h5 b hb
  unfold MakePost makeV makeN makeC
  rw [he, if_pos rfl, if_pos rfl, if_pos rfl]
  refine ⟨rfl, ⟨⟨L', S.add ⟨kind, name, xs.map Int.toNat⟩, _, k2, k1, rfl, h4.add _ (cast_toNat hk).2 (fun e => absurd e h1), fun b hb => ?_, fun i a ha x hx => ?_⟩, fun b hb => ?_⟩, ho⟩
  · exact (k4 b hb).imp (h5 b) fun h => ⟨h, (k1.fp_lt b hb).2⟩
  · rcases k5 i a ha with h | h
    · exact .inl (h6 i a h x hx)
    · have hl := k1.older.ad i a ha x hx
      exact .inr ⟨h x hx, hl⟩
  · rcases hb with hb | hb
    · exact Nat.lt_of_lt_of_le (h7 b hb) ho.size
    · exact hb.2
theorem live_con (h : Live M g N c w) (name : ByteArray) (A : Option Addr) (cap : Nat) (xs : List Int) (hx : Ints w A xs) (hl : xs.length ≤ 1000000) (hs : name.size ≤ 1000000) (hm : N.length + 1 ≤ 1000000) :
    Calls Try.prog 30 #[.pointer (some ⟨g, 0, none⟩), .string name, .slice A xs.length cap] w (MakePost M g N c w 2 name xs) := by
  have h' := h
  obtain ⟨⟨L, S, d, rfl, h2, rfl, h4, h5, h6⟩, h7⟩ := h
  cases hk : allIn S.nodes.length xs with
  | false =>
    refine (con_no h2 name A cap xs hx hl hk).mono ?_
    rintro e w' ⟨rfl, rfl⟩
    exact make_no h' (Below.refl _ _) (by unfold makeErr; rw [if_pos hk]) (by decide)
  | true =>
    by_cases hq : kindL name.toList = 1
    · exact (con_any h2 name A cap xs hx hl hs hk hq hm).mono fun e w' hp => make_yes h2 h4 h5 h6 h7 (by unfold makeErr; rw [if_neg (by simp [hk]), if_neg (by simp [hq])]) hk (by decide) hp
    · refine (con_bad h2 name A cap xs hx hl hs hk hq).mono ?_
      rintro e w' ⟨rfl, rfl⟩
      exact make_no h' (Below.refl _ _) (by unfold makeErr; rw [if_neg (by simp [hk]), if_pos (.inl ⟨rfl, hq⟩)]) (by decide)
theorem live_pair (h : Live M g N c w) (A : Option Addr) (cap : Nat) (xs : List Int) (hx : Ints w A xs) (hl : xs.length ≤ 1000000) (hm : N.length + 1 ≤ 1000000) :
    Calls Try.prog 27 #[.pointer (some ⟨g, 0, none⟩), .slice A xs.length cap] w (MakePost M g N c w 3 ByteArray.empty xs) := by
  have h' := h
  obtain ⟨⟨L, S, d, rfl, h2, rfl, h4, h5, h6⟩, h7⟩ := h
  cases hk : allIn S.nodes.length xs with
  | false =>
    refine (pair_no h2 A cap xs hx hl hk).mono ?_
    rintro e w' ⟨rfl, rfl⟩
    exact make_no h' (Below.refl _ _) (by unfold makeErr; rw [if_pos hk]) (by decide)
  | true =>
    by_cases hq : 2 ≤ xs.length
    · exact (pair_any h2 A cap xs hx hl hk hq hm).mono fun e w' hp => make_yes h2 h4 h5 h6 h7 (by unfold makeErr; rw [if_neg (by simp [hk]), if_neg (by rintro (⟨h, _⟩ | ⟨_, h⟩); exact absurd h (by decide); omega)]) hk (by decide) hp
    · refine (pair_bad h2 A cap xs hx hl hk (by omega)).mono ?_
      rintro e w' ⟨rfl, rfl⟩
      exact make_no h' (Below.refl _ _) (by unfold makeErr; rw [if_neg (by simp [hk]), if_pos (.inr ⟨rfl, by omega⟩)]) (by decide)
theorem live_arrow (h : Live M g N c w) (a b : Int) (hm : N.length + 1 ≤ 1000000) :
    Calls Try.prog 31 #[.pointer (some ⟨g, 0, none⟩), .int .i64 a, .int .i64 b] w (MakePost M g N c w 4 ByteArray.empty [a, b]) := by
  have h' := h
  obtain ⟨⟨L, S, d, rfl, h2, rfl, h4, h5, h6⟩, h7⟩ := h
  cases hk : allIn S.nodes.length [a, b] with
  | false =>
    refine (arrow_no h2 a b hk).mono ?_
    rintro e w' ⟨rfl, hb⟩
    exact make_no h' hb (by unfold makeErr; rw [if_pos hk]) (by decide)
  | true =>
    exact (arrow_any h2 a b hk hm).mono fun e w' hp => make_yes (xs := [a, b]) h2 h4 h5 h6 h7 (by unfold makeErr; rw [if_neg (by simp [hk]), if_neg (by rintro (⟨h, _⟩ | ⟨h, _⟩) <;> exact absurd h (by decide))]) hk (by decide) hp
theorem live_len (h : Live M g N c w) : Calls Try.prog 32 #[.pointer (some ⟨g, 0, none⟩)] w fun e w' => e = .returned (.int .i64 (N.length : Int)) ∧ w = w' := by
  obtain ⟨⟨L, S, d, rfl, h2, rfl, h4, h5, h6⟩, h7⟩ := h
  exact len_any h2
/-- What Unify answers. -/
def UniSaid (N : List Nd) (c : Nat → Nat) (a b : Int) (err : Int) (c' : Nat → Nat) : Prop :=
  (allIn N.length [a, b] = false ∧ err = 221 ∧ c' = c) ∨ (allIn N.length [a, b] = true ∧ ((err = 0 ∧ Least N c a.toNat b.toNat c') ∨ (err = 131 ∧ c' = c ∧ ∀ e, ¬ Good N c a.toNat b.toNat e) ∨ (err = 130 ∧ c' = c ∧ ∃ cl, Least N c a.toNat b.toNat cl ∧ ¬ Acyc N cl)))
theorem live_unify (h : Live M g N c w) (a b : Int) : Calls Try.prog 23 #[.pointer (some ⟨g, 0, none⟩), .int .i64 a, .int .i64 b] w fun e w' => ∃ err c', e = .returned (.int .i64 err) ∧ UniSaid N c a b err c' ∧ Live M g N c' w' ∧ Only M w w' := by
  have h' := h
  obtain ⟨⟨L, S, d, rfl, h2, rfl, h4, h5, h6⟩, h7⟩ := h
  cases hk : allIn S.nodes.length [a, b] with
  | false =>
    refine (unify_no h2 a b hk).mono ?_
    rintro e w' ⟨rfl, hb⟩
    exact ⟨221, c, rfl, .inl ⟨hk, rfl, rfl⟩, h'.below hb, Only.of_below hb _⟩
  | true =>
    have hab : (0 ≤ a ∧ a < (S.nodes.length : Int)) ∧ (0 ≤ b ∧ b < (S.nodes.length : Int)) := by simpa [allIn] using hk
    have := unify_any h2 h4 a.toNat b.toNat (by omega) (by omega)
    rw [show ((a.toNat : Nat) : Int) = a by omega, show ((b.toNat : Nat) : Int) = b by omega] at this
    refine this.mono ?_
    rintro e w' ⟨S', c', d', err, rfl, k1, k2, k3, k4, k5⟩
    have ho : Only M w w' := k4.mono fun b _ hb => h5 b (Lay.fq_fp hb)
    refine ⟨err, c', rfl, .inr ⟨hk, ?_⟩, ⟨⟨L, S', d', rfl, k1, k2, k3, h5, h6⟩, fun b hb => Nat.lt_of_lt_of_le (h7 b hb) ho.size⟩, ho⟩
    rcases k5 with ⟨e1, e2⟩ | ⟨e1, _, e2, e3⟩ | ⟨e1, _, e2, e3⟩
    · exact .inl ⟨e1, e2⟩
    · exact .inr (.inl ⟨e1, e2, e3⟩)
    · exact .inr (.inr ⟨e1, e2, e3⟩)
theorem live_alike (h : Live M g N c w) (a b : Nat) (ha : a < N.length) (hb : b < N.length) : Calls Try.prog 19 #[.pointer (some ⟨g, 0, none⟩), .int .i64 (a : Int), .int .i64 (b : Int)] w fun e w' => (∃ r : Bool, e = .returned (.bool r) ∧ (r = true ↔ AlikeIn N c a b)) ∧ Live M g N c w' ∧ Only M w w' := by
  obtain ⟨⟨L, S, d, rfl, h2, rfl, h4, h5, h6⟩, h7⟩ := h
  refine (alike_any h2 h4 a b ha hb).mono ?_
  rintro e w' ⟨h8, k1, k2⟩
  have ho : Only M w w' := k2.mono fun b _ hb => h5 b (Lay.fq_fp hb)
  exact ⟨h8, ⟨⟨L, S, d, rfl, k1, rfl, h4, h5, h6⟩, fun b hb => Nat.lt_of_lt_of_le (h7 b hb) ho.size⟩, ho⟩
theorem live_size (h : Live M g N c w) (i : Int) (sz : Int) (hs : (allIn N.length [i] = false ∧ sz = 0) ∨ (allIn N.length [i] = true ∧ ∃ T, TreeOf N c [i.toNat] T ∧ sz = (capped T.cnt : Int))) : Calls Try.prog 13 #[.pointer (some ⟨g, 0, none⟩), .int .i64 i] w fun e w' => e = .returned (.int .i64 sz) ∧ Below w.heap.size w w' := by
  have h' := h
  obtain ⟨⟨L, S, d, rfl, h2, rfl, h4, h5, h6⟩, h7⟩ := h
  rcases hs with ⟨hk, rfl⟩ | ⟨hk, T, hT, rfl⟩
  · exact size_no h2 i hk
  · have hab : 0 ≤ i ∧ i < (S.nodes.length : Int) := by simpa [allIn] using hk
    obtain ⟨T', hT'⟩ := h4.stands [i.toNat] (by simp; omega)
    have e1 : T = T' := TreeOf.unique h4.inv.wf h4.closed h4.roots (by simp; omega) hT ⟨par S.forms, h4.forms, hT'⟩
    subst e1
    have := size_any h2 h4 i.toNat (by omega) T hT'
    rwa [show ((i.toNat : Nat) : Int) = i by omega] at this
theorem live_types (h : Live M g N c w) (A : Option Addr) (cap : Nat) (ns : List Nat) (hA : Nats w A ns) (hns : ∀ x ∈ ns, x < N.length) (hlen : ns.length ≤ 1000000) (T : Fo) (hT : TreeOf N c ns T) (hsz : ∀ x ∈ ns, ∀ B, TreeOf N c [x] B → B.cnt ≤ 300) :
    Calls Try.prog 15 #[.pointer (some ⟨g, 0, none⟩), .slice A ns.length cap] w (TypesPost w ns.length (ren T)) := by
  obtain ⟨⟨L, S, d, rfl, h2, rfl, h4, h5, h6⟩, h7⟩ := h
  obtain ⟨T', hT'⟩ := h4.stands ns hns
  have e1 : T = T' := TreeOf.unique h4.inv.wf h4.closed h4.roots hns hT ⟨par S.forms, h4.forms, hT'⟩
  subst e1
  exact types_any h2 h4 A cap ns hA hns hlen T hT' (fun x hx B hB => hsz x hx B ⟨par S.forms, h4.forms, hB⟩)
theorem live_types_no (h : Live M g N c w) (A : Option Addr) (cap : Nat) (xs : List Int) (hA : Ints w A xs) (hlen : xs.length ≤ 1000000) (hall : allIn N.length xs = false) :
    Calls Try.prog 15 #[.pointer (some ⟨g, 0, none⟩), .slice A xs.length cap] w (TypesNo w 221) := by
  obtain ⟨⟨L, S, d, rfl, h2, rfl, h4, h5, h6⟩, h7⟩ := h
  exact types_no h2 A cap xs hA hlen hall
theorem live_types_big (h : Live M g N c w) (A : Option Addr) (cap : Nat) (ns : List Nat) (hA : Nats w A ns) (hns : ∀ x ∈ ns, x < N.length) (hlen : ns.length ≤ 1000000) (hbig : ∃ x ∈ ns, ∃ B, TreeOf N c [x] B ∧ 300 < B.cnt) :
    Calls Try.prog 15 #[.pointer (some ⟨g, 0, none⟩), .slice A ns.length cap] w (TypesNo w 120) := by
  obtain ⟨⟨L, S, d, rfl, h2, rfl, h4, h5, h6⟩, h7⟩ := h
  refine types_big h2 h4 A cap ns hA hns hlen ?_
  obtain ⟨x, hx, B, hB, hl⟩ := hbig
  obtain ⟨B', hB'⟩ := h4.stands [x] (by simpa using hns x hx)
  have e1 : B = B' := TreeOf.unique h4.inv.wf h4.closed h4.roots (by simpa using hns x hx) hB ⟨par S.forms, h4.forms, hB'⟩
  subst e1
  exact ⟨x, hx, B, hB', hl⟩
end
end Go.Proofs.Ytafpbdmggnfdnaa

/- Plain: the reference's store (nodes with links): what holds of it; what a link does to it; a search for cycles that calls itself. -/
namespace Go.Proofs.Ytafpbdmggnfdnaa
set_option linter.unusedVariables false

/-- The reference's store: nodes, and which one each is alike to (itself: none). -/
structure RS where
  nodes : List Nd
  up : List Nat
structure RInv (R : RS) (c d : Nat → Nat) : Prop where
  lu : R.up.length = R.nodes.length
  wf : Wf R.nodes
  forest : Forest R.nodes.length (par R.up) c d
  forms : ∀ x, x < R.nodes.length → c x = x → Form R.nodes c x x
structure ROk (R : RS) (c d : Nat → Nat) : Prop where
  inv : RInv R c d
  closed : Closed R.nodes c
  acyc : Acyc R.nodes c
def RS.link (R : RS) (x y : Nat) : RS := { R with up := R.up.set x y }
def RS.add (R : RS) (p : Nd) : RS := ⟨R.nodes ++ [p], R.up ++ [R.nodes.length]⟩
theorem RInv.root {R : RS} {c d : Nat → Nat} (h : RInv R c d) (i : Nat) (hi : i < R.nodes.length) : c i < R.nodes.length ∧ par R.up (c i) = c i ∧ c (c i) = c i := h.forest.top i hi
theorem RInv.rootOf {R : RS} {c d : Nat → Nat} (h : RInv R c d) (x : Nat) (hx : x < R.nodes.length) (e : c x = x) : par R.up x = x := by
  have := (h.root x hx).2.1; rwa [e] at this
theorem ROk.roots {R : RS} {c d : Nat → Nat} (h : ROk R c d) (i : Nat) (hi : i < R.nodes.length) : c i < R.nodes.length ∧ c (c i) = c i := ⟨(h.inv.root i hi).1, (h.inv.root i hi).2.2⟩
theorem ROk.forms {R : RS} {c d : Nat → Nat} (h : ROk R c d) (i : Nat) (hi : i < R.nodes.length) : Form R.nodes c (c i) (c i) := h.inv.forms (c i) (h.roots i hi).1 (h.roots i hi).2
theorem RInv.link {R : RS} {c d : Nat → Nat} (h : RInv R c d) (x y : Nat) (hx : x < R.nodes.length) (hy : y < R.nodes.length) (cx : c x = x) (cy : c y = y) (hne : x ≠ y) (P Q : Nd) (hP : R.nodes[x]? = some P) (hQ : R.nodes[y]? = some Q) (hk : P.kind ≠ 1 → Q.kind ≠ 1) :
    RInv (R.link x y) (join c x y) (fun i => if c i = x then d i + d y + 1 else d i) := by
  have px := h.rootOf x hx cx
  have py := h.rootOf y hy cy
  have ha : par (R.link x y).up = fun i => if i = x then y else par R.up i := by
    funext i; exact par_set R.up x y i (by rw [h.lu]; exact hx)
  refine ⟨by simp [RS.link, h.lu], h.wf, by rw [ha]; exact h.forest.link x y hx hy px py hne, fun z hz hcz => ?_⟩
  have hzx : z ≠ x := by
    rintro rfl
    unfold Go.Proofs.Ytafpbdmggnfdnaa.join at hcz
    rw [if_pos cx] at hcz
    exact hne hcz.symm
  have hcz0 : c z = z := by
    unfold Go.Proofs.Ytafpbdmggnfdnaa.join at hcz
    split at hcz
    · rename_i e; subst hcz; exact absurd (cy.symm.trans e).symm hne
    · exact hcz
  have Fz := h.forms z hz hcz0
  refine ⟨Fz.lt, by unfold Go.Proofs.Ytafpbdmggnfdnaa.join; rw [hcz0, if_neg hzx], fun j p q hj hcj hp hq => ?_⟩
  unfold Go.Proofs.Ytafpbdmggnfdnaa.join at hcj
  split at hcj
  · rename_i e
    subst hcj
    have h1 := (h.forms x hx cx).head j p P hj e hp hP
    have h2 := hk h1
    have e2 : some Q = some q := hQ.symm.trans hq
    injection e2 with e2
    rw [← e2]; exact h2
  · exact Fz.head j p q hj hcj hp hq
theorem RInv.link_roots {R : RS} {c d : Nat → Nat} (h : RInv R c d) (x y : Nat) (hx : x < R.nodes.length) (cx : c x = x) (hne : x ≠ y) : nroots (par (R.link x y).up) R.nodes.length + 1 = nroots (par R.up) R.nodes.length := by
  have ha : par (R.link x y).up = fun i => if i = x then y else par R.up i := by
    funext i; exact par_set R.up x y i (by rw [h.lu]; exact hx)
  rw [ha]; exact nroots_link _ x y _ hx (h.rootOf x hx cx) hne

/-- The reference links x to y, or y to x. -/
theorem ref_link {R : RS} {c0 c d : Nat → Nat} {a b p q x y : Nat} {P Q : Nd} {todo : List (Nat × Nat)} (hi : RInv R c d) (h : MInv R.nodes c0 a b c (todo ++ [(p, q)])) (cp : c p = x) (cq : c q = y) (hne : x ≠ y)
    (hP : R.nodes[x]? = some P) (hQ : R.nodes[y]? = some Q) (hh : P.kind ≠ 1 → Q.kind ≠ 1 → Heads P Q)
    (x' y' : Nat) (hxy : (x' = x ∧ y' = y ∧ (P.kind ≠ 1 → Q.kind ≠ 1)) ∨ (x' = y ∧ y' = x ∧ (Q.kind ≠ 1 → P.kind ≠ 1))) :
    ∃ c' d', RInv (R.link x' y') c' d' ∧ MInv R.nodes c0 a b c' (newTodo todo P Q) ∧ (∀ i, c' i = i → c i = i) ∧
      nroots (par (R.link x' y').up) R.nodes.length + 1 = nroots (par R.up) R.nodes.length := by
  have hm : (p, q) ∈ todo ++ [(p, q)] := by simp
  have hl := h.lt _ hm
  have rx := hi.root p hl.1
  have ry := hi.root q hl.2
  rw [cp] at rx; rw [cq] at ry
  have Fx := hi.forms x rx.1 rx.2.2
  have Fy := hi.forms y ry.1 ry.2.2
  have hJ : MInv R.nodes c0 a b (join c x y) (newTodo todo P Q) := by
    refine MInv.join hi.wf h (fun t ht => ?_) (fun t ht => ?_) hm cp cq Fx Fy hP hQ (fun k1 k2 => ⟨hh k1 k2, fun k u v hu hv => ?_⟩)
    · unfold newTodo
      rcases List.mem_append.1 ht with ht | ht
      · split
        · exact .inr ht
        · exact .inr (List.mem_append_left _ ht)
      · simp at ht; exact .inl ht
    · unfold newTodo at ht
      split at ht
      · exact .inl (List.mem_append_left _ ht)
      · rename_i hk
        rcases List.mem_append.1 ht with ht | ht
        · exact .inl (List.mem_append_left _ ht)
        · refine .inr ⟨fun e => hk (.inl e), fun e => hk (.inr e), mem_zip_at ht⟩
    · unfold newTodo
      rw [if_neg (by rintro (e | e); exact k1 e; exact k2 e)]
      exact List.mem_append_right _ (zip_mem_at hu hv)
  have hroots : ∀ u v i, u ≠ v → c v = v → join c u v i = i → c i = i := by
    intro u v i huv cv hj
    unfold Go.Proofs.Ytafpbdmggnfdnaa.join at hj
    split at hj
    · rw [← hj]; exact cv
    · exact hj
  rcases hxy with ⟨rfl, rfl, hk⟩ | ⟨rfl, rfl, hk⟩
  · exact ⟨_, _, hi.link x' y' rx.1 ry.1 rx.2.2 ry.2.2 hne P Q hP hQ hk, hJ, fun i => hroots x' y' i hne ry.2.2, hi.link_roots x' y' rx.1 rx.2.2 hne⟩
  · exact ⟨_, _, hi.link x' y' ry.1 rx.1 ry.2.2 rx.2.2 (Ne.symm hne) Q P hQ hP hk, hJ.congr hi.wf (join_comm _ c _ _) (join_comm _ c _ _), fun i => hroots x' y' i (Ne.symm hne) rx.2.2, hi.link_roots x' y' ry.1 ry.2.2 (Ne.symm hne)⟩

theorem ROk.new : ROk ⟨[], []⟩ (fun i => i) (fun _ => 0) := by
  refine ⟨⟨rfl, fun i p h => by simp at h, ⟨fun i h => ?_, fun i h => ?_, fun i h => ?_, fun i h => ?_⟩, fun x h => ?_⟩, fun i j p q h => by simp at h, ⟨fun i => i, fun i j h => ?_, fun i p h => by simp at h⟩⟩ <;> (simp at h)
theorem ROk.add {R : RS} {c d : Nat → Nat} (h : ROk R c d) (p : Nd) (ha : ∀ a ∈ p.args, a < R.nodes.length) (hk : p.kind = 1 → p.args = []) : ROk (R.add p) (addC R.nodes.length c) (fun i => if i = R.nodes.length then 0 else d i) := by
  have hlen : (R.add p).nodes.length = R.nodes.length + 1 := by simp [RS.add]
  have hc : ∀ i, i < R.nodes.length → c i < R.nodes.length := fun i hi => (h.inv.root i hi).1
  refine ⟨⟨?_, h.inv.wf.add p ha hk, ?_, fun x hx hcx => ?_⟩, h.closed.add h.inv.wf hc p ha, h.acyc.add h.inv.wf hc p ha⟩
  · simp [RS.add, h.inv.lu]
  · rw [hlen]; exact h.inv.forest.add h.inv.lu
  · rw [hlen] at hx
    by_cases e : x = R.nodes.length
    · subst e; exact Form.new _ _ hc p
    · rw [addC_old (by omega)] at hcx
      exact (h.inv.forms x (by omega) hcx).add (by omega) p

/-- A search that calls itself. What holds of the states ahead of a call at a node of root r. -/
def Meas (n : Nat) (c : Nat → Nat) (A : Nat → List Nat) (g : Nat → Nat) : Prop := ∀ m, m < n → c m = m → ∀ x ∈ A m, g (c x) < g m
structure Fine (n : Nat) (c : Nat → Nat) (A : Nat → List Nat) (st fin : Nat → Nat) (t : Nat) : Prop where
  fine : ∀ m, st m = 2 → m < n ∧ (∀ x ∈ A m, st (c x) = 2 ∧ fin (c x) < fin m) ∧ fin m < t
  small : ∀ m, st m ≤ 2
/-- All that is open stands above r. -/
def Above (n : Nat) (c : Nat → Nat) (A : Nat → List Nat) (st : Nat → Nat) (r : Nat) : Prop := ∀ g, Meas n c A g → ∀ m, st m = 1 → g r < g m
section
variable {n : Nat} {c : Nat → Nat} {A : Nat → List Nat} {st fin : Nat → Nat} {t r x : Nat}
theorem Above.none (h : Above n c A st r) (hr : st r = 1) : ¬ ∃ g, Meas n c A g := by
  rintro ⟨g, hg⟩
  have := h g hg r hr
  omega
theorem Above.child (h : Above n c A st r) (hr : r < n) (cr : c r = r) (hx : x ∈ A r) : Above n c A (updN st r 1) (c x) := by
  intro g hg m hm
  have h1 := hg r hr cr x hx
  by_cases e : m = r
  · rw [e]; exact h1
  · rw [updN_other _ _ _ _ e] at hm
    have := h g hg m hm
    omega
theorem Above.same {st' : Nat → Nat} (h : Above n c A st r) (hs : ∀ m, st' m = 1 → st m = 1) : Above n c A st' r := fun g hg m hm => h g hg m (hs m hm)
theorem Fine.open_ (h : Fine n c A st fin t) (h0 : st r = 0) : Fine n c A (updN st r 1) fin t := by
  refine ⟨fun m hm => ?_, fun m => ?_⟩
  · by_cases e : m = r
    · rw [e, updN_same] at hm; cases hm
    · rw [updN_other _ _ _ _ e] at hm
      obtain ⟨h1, h2, h3⟩ := h.fine m hm
      refine ⟨h1, fun x hx => ⟨?_, (h2 x hx).2⟩, h3⟩
      have := (h2 x hx).1
      by_cases e2 : c x = r
      · rw [e2, h0] at this; cases this
      · rw [updN_other _ _ _ _ e2]; exact this
  · unfold updN; split
    · decide
    · exact h.small m
theorem Fine.close (h : Fine n c A st fin t) (h1 : st r = 1) (hr : r < n) (hall : ∀ x ∈ A r, st (c x) = 2) : Fine n c A (updN st r 2) (updN fin r t) (t + 1) := by
  have hne : ∀ y, st y = 2 → y ≠ r := by rintro y hy rfl; rw [h1] at hy; cases hy
  refine ⟨fun m hm => ?_, fun m => ?_⟩
  · by_cases e : m = r
    · subst e
      rw [updN_same]
      refine ⟨hr, fun x hx => ?_, by omega⟩
      have h2 := hall x hx
      rw [updN_other _ _ _ _ (hne _ h2), updN_other _ _ _ _ (hne _ h2)]
      exact ⟨h2, (h.fine _ h2).2.2⟩
    · rw [updN_other _ _ _ _ e] at hm ⊢
      obtain ⟨k1, k2, k3⟩ := h.fine m hm
      refine ⟨k1, fun x hx => ?_, by omega⟩
      have h2 := (k2 x hx).1
      rw [updN_other _ _ _ _ (hne _ h2), updN_other _ _ _ _ (hne _ h2)]
      exact k2 x hx
  · unfold updN; split
    · decide
    · exact h.small m
end
/-- What a search that has found nothing tells of the states. -/
structure Went (st st' : Nat → Nat) : Prop where
  opened : ∀ m, st' m = 1 ↔ st m = 1
  kept : ∀ m, st m = 2 → st' m = 2
theorem Went.refl (st : Nat → Nat) : Went st st := ⟨fun _ => Iff.rfl, fun _ h => h⟩
theorem Went.trans {a b c : Nat → Nat} (h : Went a b) (k : Went b c) : Went a c := ⟨fun m => (k.opened m).trans (h.opened m), fun m hm => k.kept m (h.kept m hm)⟩
theorem Went.close {st st' : Nat → Nat} {r : Nat} (h : Went (updN st r 1) st') (h0 : st r = 0) : Went st (updN st' r 2) := by
  refine ⟨fun m => ?_, fun m hm => ?_⟩
  · by_cases e : m = r
    · subst e; rw [updN_same, h0]; simp
    · rw [updN_other _ _ _ _ e, h.opened, updN_other _ _ _ _ e]
  · by_cases e : m = r
    · subst e; rw [updN_same]
    · rw [updN_other _ _ _ _ e]
      exact h.kept m (by rw [updN_other _ _ _ _ e]; exact hm)
theorem Went.zeros {st st' : Nat → Nat} {n : Nat} (h : Went st st') (hs : ∀ m, st' m ≤ 2) (h2 : ∀ m, st m ≤ 2) : zeros st' n ≤ zeros st n := by
  induction n with
  | zero => simp [Go.Proofs.Ytafpbdmggnfdnaa.zeros]
  | succ n ih =>
    unfold Go.Proofs.Ytafpbdmggnfdnaa.zeros
    by_cases e : st n = 0
    · rw [if_pos e]; split <;> omega
    · have h3 := h2 n
      have h4 : st' n ≠ 0 := by
        rcases (show st n = 1 ∨ st n = 2 by omega) with h5 | h5
        · rw [(h.opened n).2 h5]; decide
        · rw [h.kept n h5]; decide
      rw [if_neg e, if_neg h4]; exact ih

/-- Two answers of Unify to the same, of stores whose classes are the same. -/
theorem UniSame {N : List Nd} {c c1 c' c1' : Nat → Nat} {a b : Nat} (h01 : Resp N.length c c1) (h10 : Resp N.length c1 c) (hl : Least N c a b c') (hl1 : Least N c1 a b c1') : Resp N.length c' c1' ∧ Resp N.length c1' c' := Least.same hl hl1 h01 h10
theorem Good.of_resp {N : List Nd} {c c1 e : Nat → Nat} {a b : Nat} (h : Good N c a b e) (h10 : Resp N.length c1 c) : Good N c1 a b e := ⟨fun i j hi hj hij => h.resp i j hi hj (h10 i j hi hj hij), h.ab, h.closed⟩
end Go.Proofs.Ytafpbdmggnfdnaa
