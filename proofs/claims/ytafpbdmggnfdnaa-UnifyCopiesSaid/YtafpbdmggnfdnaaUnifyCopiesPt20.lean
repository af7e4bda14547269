/- Part 20 of the proof of UnifyCopies: what follows was kept as these texts: ProgCopy. -/
import Derived.Test.YtafpbdmggnfdnaaUnifyCopiesPt1
import Derived.Test.YtafpbdmggnfdnaaUnifyCopiesPt2
import Derived.Test.YtafpbdmggnfdnaaUnifyCopiesPt3
import Derived.Test.YtafpbdmggnfdnaaUnifyCopiesPt4
import Derived.Test.YtafpbdmggnfdnaaUnifyCopiesPt5
import Derived.Test.YtafpbdmggnfdnaaUnifyCopiesPt6
import Derived.Test.YtafpbdmggnfdnaaUnifyCopiesPt7
import Derived.Test.YtafpbdmggnfdnaaUnifyCopiesPt8
import Derived.Test.YtafpbdmggnfdnaaUnifyCopiesPt9
import Derived.Test.YtafpbdmggnfdnaaUnifyCopiesPt10
import Derived.Test.YtafpbdmggnfdnaaUnifyCopiesPt11
import Derived.Test.YtafpbdmggnfdnaaUnifyCopiesPt12
import Derived.Test.YtafpbdmggnfdnaaUnifyCopiesPt13
import Derived.Test.YtafpbdmggnfdnaaUnifyCopiesPt14
import Derived.Test.YtafpbdmggnfdnaaUnifyCopiesPt15
import Derived.Test.YtafpbdmggnfdnaaUnifyCopiesPt16
import Derived.Test.YtafpbdmggnfdnaaUnifyCopiesPt17
import Derived.Test.YtafpbdmggnfdnaaUnifyCopiesPt18
import Derived.Test.YtafpbdmggnfdnaaUnifyCopiesPt19
/- The program's store: Copy. -/
namespace Go.Proofs.Ytafpbdmggnfdnaa
open Go.RowKit Go.Shelf Go.Maps
set_option linter.unusedVariables false
attribute [local go_sem] Oper.semAt_some

section
variable {Wr Rd : Nat → Prop} {g : Nat} {N : List Nd} {c : Nat → Nat} {w w' : World}
theorem livef_known (h : LiveF Wr Rd g N c w) (A : Option Addr) (cap : Nat) (xs : List Int) (hx : Ints w A xs) (hl : xs.length ≤ 1000000) :
    Calls Try.prog 37 #[.pointer (some ⟨g, 0, none⟩), .slice A xs.length cap] w fun e w' => e = .returned (.bool (allIn N.length xs)) ∧ w = w' := by
  obtain ⟨⟨L, S, d, rfl, h2, rfl, h4, h5, h6⟩, h7, h8, h9⟩ := h
  exact known_any h2 A cap xs hx hl
theorem livef_size (h : LiveF Wr Rd g N c w) (x : Nat) (hx : x < N.length) (T : Fo) (hT : TreeOf N c [x] T) :
    Calls Try.prog 13 #[.pointer (some ⟨g, 0, none⟩), .int .i64 (x : Int)] w fun e w' => e = .returned (.int .i64 (capped T.cnt : Int)) ∧ Below w.heap.size w w' :=
  live_size' h.live (x : Int) (capped T.cnt) (.inr ⟨by simp [inB]; omega, T, by simpa using hT, rfl⟩)
end
/-- What Copy leaves: a node that is the copy. -/
structure CopyAt (w : World) (Wr0 Rd0 : Nat → Prop) (g : Nat) (N : List Nd) (c : Nat → Nat) (T U : Fo) (a : Nat) (w' : World) (Wr Rd : Nat → Prop) (N1 : List Nd) (c1 : Nat → Nat) : Prop where
  live : LiveF Wr Rd g N1 c1 w'
  grown : Grown N c N1 c1
  lt : a < N1.length
  tree : TreeOf N1 c1 [a] (T.mapv (sgOf N.length (newL T U)))
  lo : N.length + (newL T U).length ≤ N1.length
  hi : N1.length ≤ N.length + 600
  only : Only Wr0 w w'
  wok : ∀ b, Wr b → Wr0 b ∨ (w.heap.size ≤ b ∧ b < w'.heap.size)
  rok : ∀ b, Rd b → Rd0 b ∨ (w.heap.size ≤ b ∧ b < w'.heap.size)
def CopyPost (w : World) (Wr0 Rd0 : Nat → Prop) (g : Nat) (N : List Nd) (c : Nat → Nat) (T U : Fo) (e : Ending) (w' : World) : Prop :=
  ∃ (a : Nat) (Wr Rd : Nat → Prop) (N1 : List Nd) (c1 : Nat → Nat), e = .returned (.tuple #[.int .i64 (a : Int), .int .i64 0]) ∧ CopyAt w Wr0 Rd0 g N c T U a w' Wr Rd N1 c1
def inOrd (l : List Nat) : Nat → Option Nat := fun v => if v ∈ l then some 1 else none
theorem inOrd_snoc (l : List Nat) (v : Nat) : inOrd (l ++ [v]) = updO (inOrd l) v (some 1) := by
  funext u
  unfold inOrd updO
  by_cases e : u = v
  · subst e; simp
  · simp [e]
/-- Blocks one after the other. -/
def allocs (W : World) : List Obj → World
  | [] => W
  | o :: l => allocs (W.alloc o) l
theorem allocs_size : ∀ (l : List Obj) (W : World), (allocs W l).heap.size = W.heap.size + l.length
  | [], W => rfl
  | o :: l, W => by rw [allocs, allocs_size l, World.size_alloc, List.length_cons]; omega
theorem allocs_below : ∀ (l : List Obj) (W : World), Below W.heap.size W (allocs W l)
  | [], W => Below.refl _ _
  | o :: l, W => ((Below.refl _ W).alloc (Nat.le_refl _) o).trans ((allocs_below l (W.alloc o)).mono (by simp))
theorem allocs_at : ∀ (l : List Obj) (W : World) (i : Nat) (o : Obj), l[i]? = some o → (allocs W l).heap[W.heap.size + i]? = some o
  | [], W, i, o, h => by simp at h
  | p :: l, W, 0, o, h => by
    simp at h; subst h
    exact ((allocs_below l (W.alloc p)).block W.heap.size (by simp)).trans (heap_alloc_new W p)
  | p :: l, W, i + 1, o, h => by
    have := allocs_at l (W.alloc p) i o (by simpa using h)
    rw [World.size_alloc] at this
    rw [allocs, show W.heap.size + (i + 1) = W.heap.size + 1 + i by omega]; exact this
theorem livef_seq {Wr Rd : Nat → Prop} {g : Nat} {N : List Nd} {c : Nat → Nat} {w : World} (h : LiveF Wr Rd g N c w) (nF : Nat) (hF : 3 ≤ nF) (bn bs : Nat) (Fp : Nat → Prop) (A : Option Addr) (cap : Nat) (ns : List Nat) (hns : ∀ x ∈ ns, x < N.length) (hlen : ns.length ≤ 1000000) (T : Fo) (hT : TreeOf N c ns T)
    (hFp : ∀ b, Fp b → b < w.heap.size ∧ ¬ Wr b ∧ ¬ Rd b ∧ b ≠ bn ∧ b ≠ bs ∧ (ns ≠ [] → ∀ a, A = some a → a.block ≠ b)) (hB : w.cell? ⟨bn, 0, none⟩ = some (.slice A ns.length cap)) (hS : w.cell? ⟨bs, 0, none⟩ = some (.pointer (some ⟨g, 0, none⟩))) (hc : Nats w A ns) :
    SeqZ nF Try.prog 61 #[.pointer (some ⟨bn, 0, none⟩), .pointer (some ⟨bs, 0, none⟩)] (fun v : Nat => #[.int .i64 (v : Int)]) Fp (addNew [] T.vars) w := by
  have hcls := h.cls
  obtain ⟨⟨L, S, d, rfl, h2, rfl, h4, h5, h6⟩, h7, h8, h9⟩ := h
  obtain ⟨T', hS'⟩ := h4.stands ns hns
  have hTT : T = T' := hT.uniq hcls hns ⟨_, h4.forms, hS'⟩
  subst hTT
  exact variables_seq h4 nF hF bn bs Fp A cap ns hns hlen T hS' w h2 (fun b hb => ⟨(hFp b hb).1, fun hf => (hFp b hb).2.1 (h5 b hf), (hFp b hb).2.2.2.1, (hFp b hb).2.2.2.2.1, (hFp b hb).2.2.2.2.2, fun i a ha x hx e => (hFp b hb).2.2.1 (by rw [← e]; exact h6 i a ha x hx)⟩) hB hS hc
/-- What the first range has done. -/
structure OrdIn (Wv : World) (m0 : Nat) (pre : List Nat) (M : Nat → Prop) (Wx : World) : Prop where
  map : MapOn Wx m0 pre.length pre.length (inOrd pre)
  row : ∃ v, Wx.heap[m0 + 2]? = some (.cells #[v] 30 (0, 0)) ∧ Wx.ownsRow Wv.heap.size 3 1 v pre.length (nats pre) ∧ ∀ b, v.ownBlock = some b → M b
  only : Only (fun b => b = m0 ∨ b = m0 + 2 ∨ Wv.heap.size ≤ b) Wv Wx
theorem OrdIn.keep {Wv Wa Wb : World} {m0 : Nat} {pre : List Nat} {M : Nat → Prop} (h : OrdIn Wv m0 pre M Wa) (hm : m0 + 2 < Wv.heap.size) (ho : Only (fun b => Wv.heap.size ≤ b ∧ ¬ M b) Wa Wb) : OrdIn Wv m0 pre M Wb := by
  have hz := h.only.size
  obtain ⟨v, h1, h2, h3⟩ := h.row
  exact ⟨h.map.keep (ho.block _ (by omega) (fun hb => by omega)), ⟨v, (ho.block _ (by omega) (fun hb => by omega)).trans h1, own_keep h2 (fun b hb => ho.block b (h2.lt b hb).2 (fun hx => hx.2 (h3 b hb))), h3⟩, h.only.then_ ho (fun b hb _ => .inr (.inr hb.1))⟩
/-- What is left of a row. -/
def restL (l pre : List Nat) : List Nat := l.filter (fun v => decide (v ∉ pre))
theorem restL_nil (l : List Nat) : restL l [] = l := by unfold restL; rw [List.filter_eq_self]; simp
theorem restL_snoc (l pre : List Nat) (x : Nat) : restL l (pre ++ [x]) = (restL l pre).filter (fun v => decide (v ≠ x)) := by
  unfold restL
  rw [List.filter_filter]
  refine List.filter_congr (fun v _ => ?_)
  by_cases h1 : v ∈ pre <;> by_cases h2 : v = x <;> simp [h1, h2]
theorem restL_new (T U : Fo) : restL (addNew [] T.vars) (addNew [] U.vars) = newL T U := by
  unfold restL newL
  refine List.filter_congr (fun v _ => ?_)
  simp [addNew_mem]
theorem inOrd_del (l : List Nat) (x : Nat) : updO (inOrd l) x none = inOrd (l.filter (fun v => decide (v ≠ x))) := by
  funext u
  unfold inOrd updO
  by_cases e : u = x
  · subst e; simp
  · simp [e]
theorem filter_ne_len (x : Nat) : ∀ (l : List Nat), l.Nodup → (l.filter (fun v => decide (v ≠ x))).length = if x ∈ l then l.length - 1 else l.length
  | [], _ => by simp
  | y :: l, h => by
    have h2 := List.nodup_cons.1 h
    have ih := filter_ne_len x l h2.2
    by_cases e : y = x
    · subst e
      rw [List.filter_cons_of_neg (by simp), ih, if_neg h2.1]; simp
    · rw [List.filter_cons_of_pos (by simpa using e), List.length_cons, ih]
      by_cases hx : x ∈ l
      · have : 0 < l.length := List.length_pos_of_mem hx
        rw [if_pos hx, if_pos (by simp [hx]), List.length_cons]; omega
      · rw [if_neg hx, if_neg (by simp [hx, Ne.symm e]), List.length_cons]
theorem inOrd_some (l : List Nat) (x : Nat) : (inOrd l x).isSome = decide (x ∈ l) := by unfold inOrd; by_cases h : x ∈ l <;> simp [h]
/-- So many new variables have been made. -/
structure NvAt (W5 : World) (Wr0 Rd : Nat → Prop) (g m1 : Nat) (N : List Nd) (c : Nat → Nat) (nl : List Nat) (wr : World) : Prop where
  out : ∃ (Wr : Nat → Prop) (N1 : List Nd) (c1 : Nat → Nat), LiveF Wr Rd g N1 c1 wr ∧ NewVars N c nl.length N1 c1 ∧ MapOn wr m1 nl.length nl.length (mpOf N.length nl) ∧ ∀ b, Wr b → Wr0 b ∨ (W5.heap.size ≤ b ∧ b < wr.heap.size)
  only : Only (fun b => Wr0 b ∨ b = m1) W5 wr
set_option maxRecDepth 100000 in
set_option maxHeartbeats 8000000 in
theorem copy_any {w : World} {Wr Rd : Nat → Prop} {g : Nat} {N : List Nd} {c : Nat → Nat} (h : LiveF Wr Rd g N c w) (n : Nat) (hn : n < N.length) (A : Option Addr) (cap : Nat) (ks : List Nat) (hA : Nats w A ks) (hks : ∀ x ∈ ks, x < N.length) (hkl : ks.length ≤ 1000) (hnl : N.length ≤ 1000)
    (T U : Fo) (hT : TreeOf N c [n] T) (hU : TreeOf N c ks U) (hTc : T.cnt ≤ 300) :
    Calls Try.prog 28 #[.pointer (some ⟨g, 0, none⟩), .int .i64 (n : Int), .slice A ks.length cap] w (CopyPost w Wr Rd g N c T U) := by
  have hall : allIn N.length (cast ks) = true := by
    unfold allIn cast
    rw [List.all_eq_true]
    intro x hx
    obtain ⟨y, hy, rfl⟩ := List.mem_map.1 hx
    have := hks y hy
    simp; omega
  have hcl : (cast ks).length = ks.length := by simp [cast]
  have hone : allIn N.length [(n : Int)] = true := by simp [allIn]; omega
  obtain ⟨w1, hw1⟩ : ∃ w1, w.alloc (.cells #[.int .i64 (n : Int)] 3) = w1 := ⟨_, rfl⟩
  have hb1 : Below w.heap.size w w1 := by rw [← hw1]; exact (Below.refl _ _).alloc (Nat.le_refl _) _
  have hz1 : w1.heap.size = w.heap.size + 1 := by rw [← hw1]; simp
  have hK1 := callsIn_wide (n := 4) |>.2 (livef_known (h.later hb1) (some ⟨w.heap.size, 0, none⟩) 1 [(n : Int)] (by rw [← hw1]; exact ints_one w (n : Int) _) (by simp))
  have hK2 := callsIn_wide (n := 4) |>.2 (livef_known (h.later hb1) A cap (cast ks) (Ints.below hA hb1) (by omega))
  have hSz := callsIn_wide (n := 4) |>.2 (livef_size (h.later hb1) n hn T hT)
  rw [hone] at hK1
  rw [hall, hcl] at hK2
  rw [show capped T.cnt = T.cnt by unfold capped; rw [if_pos hTc]] at hSz
  have HK1 := hide hK1; have HK2 := hide hK2; have HSz := hide hSz
  have Hh := hide h; have HA := hide hA; have Hks := hide hks; have HT := hide hT; have HU := hide hU; have Hb1 := hide hb1; have Hw1 := hide hw1; have Hz1 := hide hz1
  have kk : decide ((300 : Int) < (T.cnt : Int)) = false := by simp; omega
  have hmm := @run_makeMap Try.prog
  clear hall hcl hone hK1 hK2 hSz h hA hks hT hU hb1 hw1 hz1
  refine (callsIn_wide (n := 5)).1 ?_
  refine callsIn_of_wp_marks Try.func28 rfl trivial ?_ rfl
  simp only [Try.ntmps28, List.size_toArray, List.length_cons, List.length_nil, Nat.reduceAdd, Nat.reduceSub, Array.replicate_succ, Array.replicate_zero, List.push_toArray, List.append_toArray, List.nil_append, List.cons_append]
  gi_wp2_with fail
  rw [Hw1.out]
  refine ⟨trivial, HK1.out.mono ?_⟩
  rintro e w2 ⟨rfl, rfl⟩
  gi_wp2_with fail
  refine ⟨trivial, HK2.out.mono ?_⟩
  rintro e w2 ⟨rfl, rfl⟩
  gi_wp2_with fail
  refine ⟨trivial, HSz.out.mono ?_⟩
  rintro e w2 ⟨rfl, hb2⟩
  have Hb2 := hide (Hb1.out.trans (hb2.mono (by have := Hz1.out; omega)))
  have Hzz := hide hb2.size
  clear hb2 HK1 HK2 HSz
  gi_wp2_with fail
  refine ⟨trivial, (callsIn_wide.2 (variables_call g (some ⟨w2.heap.size + 1 + 1 + 1, 0, none⟩) 1 1 _)).mono ?_⟩
  rintro e w3 ⟨rfl, rfl⟩
  simp only [World.size_alloc]
  gi_wp2_with fail
  obtain ⟨Wv, hWv⟩ : ∃ Wv, (((((w2.alloc (Obj.map #[] 0)).alloc (Obj.cells #[.map (some w2.heap.size)] 76)).alloc (.cells #[.slice none 0 0] 30)).alloc (.cells #[.int .i64 (n : Int)] 3)).alloc (.cells #[.pointer (some ⟨g, 0, none⟩)] 26)).alloc (.cells #[.slice (some ⟨w2.heap.size + 1 + 1 + 1, 0, none⟩) 1 1] 30) = Wv := ⟨_, rfl⟩
  obtain ⟨m0, hm0⟩ : ∃ m0, w2.heap.size = m0 := ⟨_, rfl⟩
  have hal : allocs w2 [.map #[] 0, .cells #[.map (some w2.heap.size)] 76, .cells #[.slice none 0 0] 30, .cells #[.int .i64 (n : Int)] 3, .cells #[.pointer (some ⟨g, 0, none⟩)] 26, .cells #[.slice (some ⟨w2.heap.size + 1 + 1 + 1, 0, none⟩) 1 1] 30] = Wv := hWv
  have a0 := fun i o h => hal ▸ allocs_at _ w2 i o h
  have hzv : Wv.heap.size = w2.heap.size + 6 := by rw [← hal, allocs_size]; rfl
  have hbv : Below w2.heap.size w2 Wv := by rw [← hal]; exact allocs_below _ _
  have hmv : MapOn Wv w2.heap.size 0 0 (inOrd []) := by
    have h1 : inOrd [] = fun _ => none := by funext v; simp [inOrd]
    rw [h1]
    exact (MapOn.new w2).keep ((a0 0 _ rfl).trans (heap_alloc_new w2 _).symm)
  have hbm := a0 1 _ rfl
  have hbo := a0 2 _ rfl
  have hbn := a0 3 _ rfl
  have hbs := a0 4 _ rfl
  have hbl := a0 5 _ rfl
  simp only [hWv]
  rw [hm0] at hzv hbv hmv hbm hbo hbn hbs hbl
  simp only [hm0]
  have hz2 : w.heap.size < m0 := by have := Hb2.out.size; have := Hz1.out; have h3 := Hb1.out.size; have h4 : w1.heap.size ≤ w2.heap.size := Hzz.out; omega
  have HBv := hide (Hb2.out.trans (hbv.mono (by omega)))
  clear hWv hal a0 hbv hm0 kk
  have hLv := Hh.out.later HBv.out
  have cbn : Wv.cell? ⟨m0 + 5, 0, none⟩ = some (.slice (some ⟨m0 + 1 + 1 + 1, 0, none⟩) 1 1) := by rw [cell_of_row _ _ _ _ _ _ hbl]; rfl
  have cbs : Wv.cell? ⟨m0 + 4, 0, none⟩ = some (.pointer (some ⟨g, 0, none⟩)) := by rw [cell_of_row _ _ _ _ _ _ hbs]; rfl
  have hN1 : Nats Wv (some ⟨m0 + 1 + 1 + 1, 0, none⟩) [n] := by
    intro _
    refine ⟨m0 + 3, 0, rfl, by omega, fun k x hk => ?_⟩
    rw [cell_of_row _ _ _ _ _ _ hbn]
    match k with
    | 0 => simp [cast] at hk ⊢; exact hk
    | k + 1 => simp [cast] at hk
  obtain ⟨od, hod⟩ : ∃ od, addNew [] T.vars = od := ⟨_, rfl⟩
  have hodn : od.Nodup := by rw [← hod]; exact addNew_nodup _ _ List.nodup_nil
  have hodl : od.length ≤ 300 := by
    have h1 := addNew_len [] T.vars
    have h2 := Fo.vars_len T
    rw [hod] at h1; simp at h1; omega
  have hodv : ∀ v ∈ od, v < N.length := fun v hv => by
    rw [← hod] at hv
    exact (HT.out.vars_ok Hh.out.cls (by simpa using hn) v (by simpa using (addNew_mem _ _ _).1 hv)).1
  have hsq := livef_seq hLv 4 (by omega) (m0 + 5) (m0 + 4) (fun b1 => b1 = m0 ∨ b1 = m0 + 2) (some ⟨m0 + 1 + 1 + 1, 0, none⟩) 1 [n] (by simpa using hn) (by simp) T HT.out (by
    rintro b (rfl | rfl)
    · exact ⟨by omega, fun hf => by have := Hh.out.ltW _ hf; omega, fun hf => by have := Hh.out.ltR _ hf; omega, by omega, by omega, fun _ a ha => by injection ha with ha; subst ha; simp only; omega⟩
    · exact ⟨by omega, fun hf => by have := Hh.out.ltW _ hf; omega, fun hf => by have := Hh.out.ltR _ hf; omega, by omega, by omega, fun _ a ha => by injection ha with ha; subst ha; simp only; omega⟩) cbn cbs hN1
  rw [hod] at hsq
  have Hodn := hide hodn; have Hod := hide hod; have Hodv := hide hodv
  have HOr0 : Hid (OrdIn Wv m0 [] (fun _ => False) Wv) := hide ⟨hmv, ⟨_, hbo, World.ownsRow_nil _ _ _ _, fun b hb => by simp [Value.ownBlock] at hb⟩, Only.refl _ _⟩
  have Hbm := hide hbm
  have hzv1 : m0 + 6 ≤ Wv.heap.size := by omega
  have hzv2 : Wv.heap.size ≤ m0 + 6 := by omega
  obtain ⟨i1, ki, kz0, kz1, kz2⟩ := info_parts intInfo
  have Ki := hide ki; have Kz0 := hide kz0; have Kz1 := hide kz1; have Kz2 := hide kz2
  clear hodn hod hodv hmv hbo hbm hzv hN1 cbn cbs hbn hbs hbl ki kz0 kz1 kz2
  refine wpZ_rangeFunc (gf := 61) (lb := #[.pointer (some ⟨m0 + 1 + 1 + 1 + 1 + 1, 0, none⟩), .pointer (some ⟨m0 + 1 + 1 + 1 + 1, 0, none⟩)]) (by omega) rfl (enters_of Try.func61 (by kernel_rfl) rfl)
    (Fp := fun b1 => b1 = m0 ∨ b1 = m0 + 2) hsq (fun _ => rfl) (by rintro b1 (rfl | rfl) <;> omega)
    (fun pre Mz Wx => OrdIn Wv m0 pre Mz Wx) (fun _ _ _ => False) ?hI (fun _ _ _ _ h => h.elim) HOr0.out ?a1 ?assign ?body ?done (fun _ _ _ _ _ h => h.elim)
  case hI =>
    rintro pre Mz Wa Wb h1 ho
    exact h1.keep (by omega) ho
  case assign =>
    rintro l' x Wx K hK
    gi_wp2
    exact hK
  case body =>
    rintro l' pre x Mz Wx hpre hszx hMz hor
    obtain ⟨hxp, hxY⟩ := prefix_nodup hpre Hodn.out
    have hxn := Hodv.out x hxY
    have hpl : pre.length + 1 ≤ 300 := by have := hpre.length_le; simp at this; omega
    obtain ⟨vo, hvo, hro, hvM⟩ := hor.row
    have cbx : Wx.cell? ⟨m0 + 1, 0, none⟩ = some (.map (some m0)) := by
      rw [cell_of_row _ _ _ _ _ _ ((hor.only.block (m0 + 1) (by omega) (by omega)).trans Hbm.out)]; rfl
    have Hor := hide hor
    have Hin : Hid (inOrd pre x = none) := hide (by simp [inOrd, hxp])
    have HvM := hide hvM; have Hro := hide hro; have Hvo := hide hvo
    obtain ⟨Av, cv, hv, -, -⟩ := own_len hro
    subst hv
    have hml := hor.map.lt
    clear hor hvM hro hvo hxp hpre
    gi_wp2_with (first | (gi_at_mapUpdate; refine wpListIn_on_set rfl (.tmp 36) (.tmp 37) (.const (.int .i64 1)) rfl m0 pre.length pre.length (inOrd pre) rfl Hor.out.map (by omega) x 1 rfl rfl (by omega) (by omega) ?_; intro W4 M4 hg4; have HM4 := hide M4; have ho4 : Only (fun b => b = m0) Wx W4 := (only_of_grown hg4).mono (fun b _ e => by injection e with e; exact e.symm); have Ho4 := hide ho4; have Hv4 := hide ((ho4.block (m0 + 2) (Array.getElem?_eq_some_iff.1 Hvo.out).1 (by omega)).trans Hvo.out); have Hr4 := hide (own_keep Hro.out (fun b hb => ho4.block b (Hro.out.lt b hb).2 (fun e => by have := (Hro.out.lt b hb).1; omega))); have hz4 := ho4.size; clear M4 hg4 ho4; have c4 : W4.cell? ⟨m0 + 1 + 1, 0, none⟩ = some (.slice Av pre.length cv) := (one_cell Hv4.out).1) | (gi_at_builtin; go_must (refine wpListIn_append_own_at _ rfl (.tmp 38) (.tmp 40) 30 rfl Wv.heap.size 3 i1 (.int .i64 0) 1 8 Try.underlying30 Ki.out Kz0.out Kz1.out Kz2.out rfl (by decide) (.slice Av pre.length cv) pre.length (nats pre) rfl (Hr4.out.alloc _) ⟨W4.heap.size, 0, none⟩ 1 1 [.int .i64 (x : Int)] rfl rfl (one_new W4 (.int .i64 (x : Int)) 3) (by simp [Value.oneCell']) (by unfold maxLen; omega) (by omega) (by simp; omega) ?_); intro v8 W8 own8 grow8 nil8 at8; clear nil8; have Hown8 := hide own8; have Hgrow8 := hide grow8; have Hat8 := hide at8; clear own8 grow8 at8; obtain ⟨A8, cv8, hv88, -, -⟩ := own_len Hown8.out; subst hv88; have hv8 := hide ((far_block Hgrow8.out (Array.getElem?_eq_some_iff.1 Hv4.out).1 (fun e => by have := (Hr4.out.lt _ e).1; omega)).trans Hv4.out); have c8 : W8.cell? ⟨m0 + 1 + 1, 0, none⟩ = some (.slice Av pre.length cv) := (one_cell hv8.out).1; have f8 : W8.frozen? ⟨m0 + 1 + 1, 0, none⟩ = false := (one_cell hv8.out).2))
    have hM4 := HM4.out
    rw [Hin.out, ← inOrd_snoc] at hM4
    have hz8 := Hgrow8.out.size
    rw [World.size_alloc] at hz8
    have hb9 : ∀ b, b ≠ m0 + 2 → (W8.setCell ⟨m0 + 1 + 1, 0, none⟩ (.slice A8 (pre.length + 1) cv8)).heap[b]? = W8.heap[b]? := fun b hb => Below.heap_setCell _ _ _ b hb
    have hz9 : (W8.setCell ⟨m0 + 1 + 1, 0, none⟩ (.slice A8 (pre.length + 1) cv8)).heap.size = W8.heap.size := by simp [World.setCell]
    have hon : Only (fun b1 => (b1 = m0 ∨ b1 = m0 + 2) ∨ Mz b1) Wx (W8.setCell ⟨m0 + 1 + 1, 0, none⟩ (.slice A8 (pre.length + 1) cv8)) := by
      refine Only.setCell (Only.grown (Only.alloc (Ho4.out.mono (fun b _ hb => .inl (.inl hb))) _) Hgrow8.out (fun b hb => .inl (.inr (HvM.out b hb)))) (.inl (.inl (.inr rfl))) _
    have hlow : ∀ b, (Value.slice A8 (pre.length + 1) cv8).ownBlock = some b → Mz b ∨ b = W4.heap.size + 1 := by
      intro b hb
      rcases Hat8.out with h1 | h1
      · rw [h1] at hb; exact .inl (HvM.out b hb)
      · rw [h1, World.size_alloc] at hb; injection hb with hb; exact .inr hb.symm
    refine ⟨⟨fun b1 => Mz b1 ∨ (b1 = W4.heap.size + 1 ∧ b1 < W8.heap.size), ⟨?_, ⟨.slice A8 (pre.length + 1) cv8, ?_, ?_, ?_⟩, ?_⟩, fun b1 hb1 => hb1.imp id fun h => ⟨by omega, by rw [hz9]; exact h.2⟩⟩, hon⟩
    · rw [List.length_append]
      refine (show MapOn W4 m0 (pre.length + 1) (pre.length + 1) (inOrd (pre ++ [x])) from hM4).keep ?_
      rw [hb9 m0 (by omega)]
      exact far_block Hgrow8.out (by omega) (fun e => by have := (Hr4.out.lt _ e).1; omega)
    · exact blk_set hv8.out 0 _
    · rw [List.length_append, nats_snoc]
      exact own_keep Hown8.out (fun b hb => hb9 b (by have := (Hown8.out.lt b hb).1; omega))
    · intro b hb
      rcases hlow b hb with h1 | h1
      · exact .inl h1
      · exact .inr ⟨h1, (Hown8.out.lt b hb).2⟩
    · exact Hor.out.only.then_ hon (fun b hb hl => by
        rcases hb with hb | hb
        · exact hb.elim .inl (fun h => .inr (.inl h))
        · exact .inr (.inr (by have := hMz b hb; omega)))
  case done =>
    rintro Mz Wx hszx hMz hor hK
    have Hlx := hide (hLv.keep hor.only (fun b hb => by
      have h1 : ¬ b < w.heap.size := by rcases hb with hb | hb | hb <;> omega
      exact ⟨fun hf => h1 (Hh.out.ltW b hf), fun hf => h1 (Hh.out.ltR b hf)⟩))
    have hbmx := (hor.only.block (m0 + 1) (by omega) (by omega)).trans Hbm.out
    have cbx : Wx.cell? ⟨m0 + 1, 0, none⟩ = some (.map (some m0)) := by rw [cell_of_row _ _ _ _ _ _ hbmx]; rfl
    have Hbmx := hide hbmx
    have HBx : Hid (Below w.heap.size w Wx) := hide (Only.below_trans HBv.out hor.only (fun i _ hb => by rcases hb with hb | hb | hb <;> omega) HBv.out.size)
    obtain ⟨vo, hvo, hro, -⟩ := hor.row
    have Hvo := hide hvo; have Hro := hide hro; have Hmx := hide hor.map; have HK2 := hide hK
    have hwx : w.heap.size ≤ Wx.heap.size := HBx.out.size
    have hm2 : m0 + 2 < Wx.heap.size := by omega
    clear hor hbmx hvo hro hK hLv hsq
    by_cases hod0 : od.length = 0
    · have hnl0 : newL T U = [] := by unfold newL; rw [Hod.out, List.eq_nil_of_length_eq_zero hod0]; rfl
      have k1 : decide ((0 : Int) < (od.length : Int)) = false := by rw [decide_eq_false_iff_not]; omega
      have k2 : decide (0 < od.length) = false := by rw [decide_eq_false_iff_not]; omega
      have Hly := Hlx; have HBy := HBx; have Hby := Hbmx; have Hoy := Hvo; have Hry := Hro
      have Hmy : Hid (MapOn Wx m0 od.length (newL T U).length (inOrd (newL T U))) := hide (by rw [hnl0, ← List.eq_nil_of_length_eq_zero hod0]; exact Hmx.out)
      have HKy : Hid (Marked [Wv.heap.size] Wx) := hide ⟨by simp, fun D hD => by simp at hD; subst hD; exact HK2.out⟩
      have HDy : Hid (∀ D ∈ [Wv.heap.size], w.heap.size ≤ D ∧ D < Wx.heap.size) := hide (fun D hD => by simp at hD; subst hD; omega)
      clear hod0 hnl0 Hlx HBx Hbmx Hvo Hro HK2
      obtain ⟨Ao, co, hvo3, hNo, hlo⟩ := nats_of_own Hry.out
      subst hvo3
      have HNo := hide hNo; have Hlo := hide hlo
      have cbo : Wx.cell? ⟨m0 + 1 + 1, 0, none⟩ = some (.slice Ao od.length co) := (one_cell Hoy.out).1
      have hlm : m0 + 1 + 1 < Wx.heap.size := by omega
      have hb5 : Below Wx.heap.size Wx (Wx.alloc (Obj.map #[] 0)) := (Below.refl _ _).alloc (Nat.le_refl _) _
      have cbo5 : (Wx.alloc (Obj.map #[] 0)).cell? ⟨m0 + 1 + 1, 0, none⟩ = some (.slice Ao od.length co) := (hb5.cell (p := ⟨m0 + 1 + 1, 0, none⟩) hlm).trans cbo
      have hm5 : MapOn (Wx.alloc (Obj.map #[] 0)) Wx.heap.size 0 0 (mpOf N.length []) := by rw [mpOf_nil]; exact MapOn.new Wx
      obtain ⟨m1, hm1⟩ : ∃ m1, Wx.heap.size = m1 := ⟨_, rfl⟩
      have hz5 : (Wx.alloc (Obj.map #[] 0)).heap.size = m1 + 1 := by rw [World.size_alloc, hm1]
      have HB5 := hide (HBy.out.trans (hb5.mono HBy.out.size))
      have HNv0 : Hid (NvAt (Wx.alloc (Obj.map #[] 0)) Wr Rd g m1 N c [] (Wx.alloc (Obj.map #[] 0))) := hide ⟨⟨Wr, N, c, Hly.out.later hb5, NewVars.zero _ _, by rw [hm1] at hm5; exact hm5, fun b hb => .inl hb⟩, Only.refl _ _⟩
      have hzm1 : m1 ≤ Wx.heap.size := by omega
      have hzm2 : Wx.heap.size ≤ m1 := by omega
      have hz5a : m1 + 1 ≤ (Wx.alloc (Obj.map #[] 0)).heap.size := by omega
      have Hb5 := hide hb5
      clear hm5 hz5 hNo hlo hb5
      gi_wp2_with (gi_at_len; refine wpListIn_on_len rfl (.tmp 42) rfl m0 od.length od.length (inOrd od) rfl Hmx.out ?_)
      obtain ⟨W5, hW5⟩ : ∃ W5, Wx.alloc (Obj.map #[] 0) = W5 := ⟨_, rfl⟩
      rw [hW5] at HNv0 HB5 Hb5 cbo5 hz5a
      simp only [hW5, hm1]
      clear hW5 hm1 cbo
      gi_loopw [57] (fun vj wj => ∃ j : Nat, vj = .int .i64 j ∧ j ≤ od.length ∧ Hid (NvAt W5 Wr Rd g m1 N c ((od.take j).filter (fun v => decide (v ∉ U.vars))) wj)) (fun vj _ => od.length - (intOf vj).toNat)
      case atStart => exact ⟨0, rfl, by omega, HNv0⟩
      case round =>
        obtain ⟨j, rfl, hj, HNv⟩ := hrel
        clear HNv0 cbo5
        have hzw := HNv.out.only.size
        have hold : ∀ b, w.heap.size ≤ b → b < m1 → wr.heap[b]? = Wx.heap[b]? := fun b h1 h2 => (HNv.out.only.block b (by omega) (by
          rintro (hf | hf)
          · have := Hh.out.ltW b hf; omega
          · omega)).trans (Hb5.out.block b (by omega))
        have Hold := hide hold
        clear hold
        by_cases hlt : j < od.length
        · obtain ⟨bo, oo, hAo, hbo, d0⟩ := HNo.out.at_ j (by simpa [cast] using hlt)
          simp only [cast, List.getElem_map] at d0
          obtain ⟨v, hv⟩ : ∃ v, od[j] = v := ⟨_, rfl⟩
          rw [hv] at d0
          have hbo2 : Wv.heap.size ≤ bo := (Hlo.out _ hAo).1
          have d1 : wr.cell? ⟨bo, oo + j, none⟩ = some (.int .i64 (v : Int)) := (World.cell?_of_block (a := ⟨bo, oo + j, none⟩) (Hold.out bo (by omega) (by omega))).trans d0
          have cbx : wr.cell? ⟨m0 + 1, 0, none⟩ = some (.map (some m0)) := by rw [cell_of_row _ _ _ _ _ _ ((Hold.out (m0 + 1) (by omega) (by omega)).trans Hby.out)]; rfl
          have Hm := hide (Hmy.out.keep (Hold.out m0 (by omega) (by omega)))
          have hvm : v ∈ od := by rw [← hv]; exact List.getElem_mem _
          have hvn := Hodv.out v hvm
          have hnn : ((od.take j).filter (fun v => decide (v ∉ U.vars))).length ≤ 300 := by
            have h1 := List.length_filter_le (fun v => decide (v ∉ U.vars)) (od.take j)
            have h2 : (od.take j).length ≤ j := List.length_take_le _ _
            omega
          have hvj : v ∉ (od.take j).filter (fun v => decide (v ∉ U.vars)) := by
            intro hv2
            have hv2 := (List.mem_filter.1 hv2).1
            obtain ⟨i, hi, hiv⟩ := List.mem_iff_getElem.1 hv2
            have hi2 : i < j := by simp at hi; omega
            have h1 : od[i]'(by omega) = od[j] := by rw [hv, ← hiv]; simp
            have := (List.getElem_inj Hodn.out).1 h1
            omega
          have Hsn := hide (filter_take_succ (p := fun v => decide (v ∉ U.vars)) hlt)
          rw [hv] at Hsn
          have Hmem : Hid (v ∈ newL T U ↔ v ∉ U.vars) := hide (by
            rw [newL_mem]
            have : v ∈ T.vars := by
              have h1 := hvm
              rw [← Hod.out] at h1
              simpa using (addNew_mem _ _ _).1 h1
            simp [this])
          have HAo := hide hAo
          subst hAo
          clear hv d0 hvm
          by_cases hvu : v ∉ U.vars
          · have Hin : Hid (inOrd (newL T U) v = some 1) := hide (by unfold inOrd; rw [if_pos (Hmem.out.2 hvu)])
            have Hsn2 : Hid ((od.take (j + 1)).filter (fun v => decide (v ∉ U.vars)) = (od.take j).filter (fun v => decide (v ∉ U.vars)) ++ [v]) := hide (by rw [Hsn.out, if_pos (by simpa using hvu)])
            obtain ⟨nlj, hnlj⟩ : ∃ nlj, (od.take j).filter (fun v => decide (v ∉ U.vars)) = nlj := ⟨_, rfl⟩
            rw [hnlj] at HNv hnn hvj Hsn2
            obtain ⟨Wr1, N1, c1, hl1, hnv1, hmp1, hwr1⟩ := HNv.out.out
            have hn1 := hnv1.len
            have hmany : N1.length + 1 ≤ 1000000 := by omega
            have hm1w : ¬ Wr1 m1 := fun hf => by
              rcases hwr1 _ hf with h1 | h1
              · have := Hh.out.ltW _ h1; omega
              · omega
            have HL1 := hide hl1; have Hnv1 := hide hnv1; have Hmp1 := hide hmp1; have Hwr1 := hide hwr1
            have hnl1 : N1.length < 4611686018427387904 := by omega
            clear hl1 hnv1 hmp1 hwr1 hnlj hn1
            gi_wp2_with (gi_at_lookup; refine wpListIn_on_get rfl (.tmp 61) (.tmp 62) rfl m0 od.length (newL T U).length (inOrd (newL T U)) rfl Hm.out v rfl (by omega) ?_; rw [Hin.out])
            refine ⟨trivial, (callsIn_wide.2 (livef_var HL1.out hmany)).mono ?_⟩
            rintro e w6 ⟨rfl, hl6, ho6⟩
            have HM6 := hide (Hmp1.out.keep (ho6.block m1 Hmp1.out.lt hm1w))
            have Hl6 := hide hl6; have Ho6 := hide ho6
            have hz6 := ho6.size
            clear hl6 ho6 d1 cbx
            gi_wp2_with (gi_at_mapUpdate; refine wpListIn_on_set rfl (.tmp 65) (.tmp 66) (.tmp 68) rfl m1 nlj.length nlj.length (mpOf N.length nlj) rfl HM6.out (by omega) v N1.length rfl rfl (by omega) hnl1 ?_; intro w7 M7 hg7; have HM7 := hide M7; have Hg7 := hide hg7; clear M7 hg7)
            have HNx : Hid (NvAt W5 Wr Rd g m1 N c (nlj ++ [v]) w7) := hide (by
              have ho7 : Only (fun b => b = m1) w6 w7 := (only_of_grown Hg7.out).mono fun b _ e => by injection e with e; exact e.symm
              have hz7 := ho7.size
              have hM := HM7.out
              have hnone : mpOf N.length nlj v = none := by unfold mpOf; rw [if_neg hvj]
              have hn1 := Hnv1.out.len
              rw [hnone, hn1, ← mpOf_snoc _ _ _ hvj] at hM
              have hl7 := Hl6.out.keep ho7 (fun b hb => by
                subst hb
                refine ⟨fun hf => ?_, fun hf => by have := Hh.out.ltR _ hf; omega⟩
                rcases hf with hf | hf
                · exact hm1w hf
                · have := Hmp1.out.lt; omega)
              refine ⟨⟨_, _, _, hl7, by rw [List.length_append]; exact Hnv1.out.step HL1.out.cls hl7.cls, by rw [List.length_append]; exact hM, fun b hb => ?_⟩, ?_⟩
              · rcases hb with hb | hb
                · rcases Hwr1.out b hb with h1 | h1
                  · exact .inl h1
                  · exact .inr (by omega)
                · exact .inr (by omega)
              · have k1 : Only (fun b => Wr b ∨ b = m1) W5 w6 := HNv.out.only.then_ Ho6.out (fun b hb hl => by
                  rcases Hwr1.out b hb with h1 | h1
                  · exact .inl h1
                  · omega)
                exact k1.then_ ho7 (fun b hb hl => .inr hb))
            go_roundw
            case measure => simp [intOf]; omega
            case rel => exact ⟨j + 1, by go_num, by omega, by rw [Hsn2.out]; exact HNx⟩
          · have Hin : Hid (inOrd (newL T U) v = none) := hide (by unfold inOrd; rw [if_neg (fun h => hvu (Hmem.out.1 h))])
            have Hsn2 : Hid ((od.take (j + 1)).filter (fun v => decide (v ∉ U.vars)) = (od.take j).filter (fun v => decide (v ∉ U.vars))) := hide (by rw [Hsn.out, if_neg (by simpa using hvu), List.append_nil])
            gi_wp2_with (gi_at_lookup; refine wpListIn_on_get rfl (.tmp 61) (.tmp 62) rfl m0 od.length (newL T U).length (inOrd (newL T U)) rfl Hm.out v rfl (by omega) ?_; rw [Hin.out])
            go_roundw
            case measure => simp [intOf]; omega
            case rel => exact ⟨j + 1, by go_num, by omega, by rw [Hsn2.out]; exact HNv⟩
        · obtain rfl : j = od.length := by omega
          have hnl9 : (od.take od.length).filter (fun v => decide (v ∉ U.vars)) = newL T U := by rw [List.take_length, ← Hod.out]; rfl
          rw [hnl9] at HNv
          obtain ⟨Wr1, N1, c1, hl1, hnv1, hmp1, hwr1⟩ := HNv.out.out
          have hnlc := newL_len T U
          have hn1 := hnv1.len
          have hm1w : ¬ Wr1 m1 := fun hf => by
            rcases hwr1 _ hf with h1 | h1
            · have := Hh.out.ltW _ h1; omega
            · omega
          have hm1r : ¬ Rd m1 := fun hf => by have := Hh.out.ltR _ hf; omega
          have HPre : Hid (CopyPre wr Wr1 Rd g m1 N1 c1 (sgOf N.length (newL T U)) (mpOf N.length (newL T U)) (newL T U).length (newL T U).length T n) := hide ⟨hl1, hmp1, mapOk_new Hh.out.cls hl1.cls hnv1 (fun v hv => tree_var Hh.out.cls (by simpa using hn) HT.out ((newL_mem T U v).1 hv).1), hm1w, hm1r, by omega, HT.out.grown Hh.out.cls hnv1.grown (by simpa using hn), fun u hu hm => by
            unfold mpOf at hm
            by_cases e : u ∈ newL T U
            · rw [if_pos e] at hm; cases hm
            · unfold sgOf; rw [if_neg e], by omega, by omega⟩
          have Hnv1 := hide hnv1; have Hwr1 := hide hwr1
          have hn1a : N1.length ≤ N.length + (newL T U).length := by omega
          have hn1b : N.length + (newL T U).length ≤ N1.length := by omega
          clear hl1 hnv1 hmp1 hwr1 hnl9 hn1 hm1w hm1r
          gi_wp2_with fail
          refine ⟨trivial, (callsIn_wide.2 (copied_any g m1 _ T.cnt n T wr Wr1 Rd N1 c1 _ _ _ (Nat.le_refl _) HPre.out)).mono ?_⟩
          rintro e w7 ⟨a, Wr7, Rd7, N7, c7, mp7, nb7, mb7, rfl, hc7⟩
          have Hc7 := hide hc7
          clear hc7
          gi_wp2
          have hzw7 := Hc7.out.only.size
          have hon7 : Only Wr w w7 := by
            have k1 : Only Wr w W5 := Only.of_below HB5.out _
            have k2 : Only Wr w wr := k1.then_ HNv.out.only (fun b hb hl => by
              rcases hb with hb | hb
              · exact hb
              · omega)
            exact k2.then_ Hc7.out.only (fun b hb hl => by
              rcases hb with hb | hb
              · rcases Hwr1.out b hb with h1 | h1
                · exact h1
                · omega
              · omega)
          have hmk : Marked [Wv.heap.size] w7 := HKy.out.keep (fun D hD => by
            have hD1 := HDy.out D hD
            refine (Hc7.out.only.block D (by omega) ?_).trans (Hold.out D (by omega) (by omega))
            rintro (hf | hf)
            · rcases Hwr1.out D hf with h1 | h1
              · have := Hh.out.ltW D h1; omega
              · omega
            · omega)
          refine leaves_marks_res (v := .tuple #[.int .i64 (a : Int), .int .i64 0]) [Wv.heap.size] w7 hmk fun W' ho => ⟨by simp [results, Try.results28, go_sem], ?_⟩
          have hzo := ho.size
          have hDs : ∀ b, b ∈ [Wv.heap.size] → w.heap.size ≤ b ∧ b < m1 := fun b hb => by have := HDy.out b hb; omega
          refine ⟨a, Wr7, Rd7, N7, c7, rfl, Hc7.out.live.keep ho (fun b hb => ?_), Hnv1.out.grown.trans Hc7.out.grown, Hc7.out.lt, Hc7.out.tree, by have := Hc7.out.grown.len; omega, by have := Hc7.out.len; omega, hon7.then_ ho (fun b hb hl => by have := hDs b hb; omega), fun b hb => ?_, fun b hb => ?_⟩
          · have h0 := hDs b hb
            refine ⟨fun hf => ?_, fun hf => ?_⟩
            · rcases Hc7.out.wok b hf with h1 | h1
              · rcases Hwr1.out b h1 with h2 | h2
                · have := Hh.out.ltW b h2; omega
                · omega
              · omega
            · rcases Hc7.out.rok b hf with h1 | h1
              · have := Hh.out.ltR b h1; omega
              · omega
          · rcases Hc7.out.wok b hb with h1 | h1
            · rcases Hwr1.out b h1 with h2 | h2
              · exact .inl h2
              · exact .inr (by omega)
            · exact .inr (by omega)
          · rcases Hc7.out.rok b hb with h1 | h1
            · exact .inl h1
            · exact .inr (by omega)
    · have k1 : decide ((0 : Int) < (od.length : Int)) = true := by simp; omega
      have k2 : decide (0 < od.length) = true := by simp; omega
      gi_wp2_with (gi_at_len; refine wpListIn_on_len rfl (.tmp 42) rfl m0 od.length od.length (inOrd od) rfl Hmx.out ?_)
      refine ⟨trivial, (callsIn_wide.2 (variables_call g A ks.length cap _)).mono ?_⟩
      rintro e w3 ⟨rfl, rfl⟩
      simp only [World.size_alloc]
      gi_wp2_with fail
      clear k1 k2
      obtain ⟨n3, hn3⟩ : ∃ n3, Wx.heap.size = n3 := ⟨_, rfl⟩
      obtain ⟨Wu, hWu⟩ : ∃ Wu, (Wx.alloc (.cells #[.pointer (some ⟨g, 0, none⟩)] 26)).alloc (.cells #[.slice A ks.length cap] 30) = Wu := ⟨_, rfl⟩
      have hal : allocs Wx [.cells #[.pointer (some ⟨g, 0, none⟩)] 26, .cells #[.slice A ks.length cap] 30] = Wu := hWu
      have a0 := fun i o h => hal ▸ allocs_at _ Wx i o h
      have hzu : Wu.heap.size = Wx.heap.size + 2 := by rw [← hal, allocs_size]; rfl
      have hbu : Below Wx.heap.size Wx Wu := by rw [← hal]; exact allocs_below _ _
      have hbs := a0 0 _ rfl
      rw [Nat.add_zero] at hbs
      have hbl := a0 1 _ rfl
      simp only [hWu]
      have Hbu := hide hbu
      have hmu : MapOn Wu m0 od.length od.length (inOrd od) := Hmx.out.keep (hbu.block m0 (by omega))
      have Hbmu := hide ((hbu.block (m0 + 1) (by omega)).trans Hbmx.out)
      have Hvou := hide ((hbu.block (m0 + 2) hm2).trans Hvo.out)
      have Hrou := hide (own_keep Hro.out (fun b hb => hbu.block b (Hro.out.lt b hb).2))
      have HKu := hide ((hbu.block Wv.heap.size (by omega)).trans HK2.out)
      have Hlu := hide (Hlx.out.later hbu)
      have HBu := hide (HBx.out.trans (hbu.mono HBx.out.size))
      have hAu : Nats Wu A ks := Ints.below HA.out HBu.out
      have hAl : ∀ a, A = some a → ks ≠ [] → a.block < w.heap.size := by
        intro a ha hne
        obtain ⟨b, off, e1, hb, -⟩ := HA.out (by simpa [cast] using hne)
        rw [ha] at e1; injection e1 with e1; rw [e1]; exact hb
      have cbn : Wu.cell? ⟨Wx.heap.size + 1, 0, none⟩ = some (.slice A ks.length cap) := by rw [cell_of_row _ _ _ _ _ _ hbl]; rfl
      have cbs : Wu.cell? ⟨Wx.heap.size, 0, none⟩ = some (.pointer (some ⟨g, 0, none⟩)) := by rw [cell_of_row _ _ _ _ _ _ hbs]; rfl
      have hsq := livef_seq Hlu.out 4 (by omega) (Wx.heap.size + 1) Wx.heap.size (fun b1 => b1 = m0) A cap ks Hks.out (by omega) U HU.out (by
        rintro b rfl
        exact ⟨by omega, fun hf => by have := Hh.out.ltW _ hf; omega, fun hf => by have := Hh.out.ltR _ hf; omega, by omega, by omega, fun hne a ha => by have := hAl a ha hne; omega⟩) cbn cbs hAu
      rw [hn3] at hsq hzu hm2 hwx hszx
      simp only [hn3]
      have hzu1 : n3 + 2 ≤ Wu.heap.size := by omega
      have hzu2 : Wu.heap.size ≤ n3 + 2 := by omega
      have hzn1 : n3 ≤ Wx.heap.size := by omega
      have hzn2 : Wx.heap.size ≤ n3 := by omega
      clear hWu hal a0 hzu hbu hbs hbl hAu hAl cbn cbs Hbmx Hvo Hro HK2 Hlx HBx Hbu cbx hn3
      have Hmu := hide hmu
      clear hmu
      refine wpZ_rangeFunc (gf := 61) (lb := #[.pointer (some ⟨n3 + 1, 0, none⟩), .pointer (some ⟨n3, 0, none⟩)]) (by omega) rfl (enters_of Try.func61 (by kernel_rfl) rfl)
        (Fp := fun b1 => b1 = m0) hsq (fun _ => rfl) (by rintro b1 rfl; omega)
        (fun pre Mz Wy => MapOn Wy m0 od.length (restL od pre).length (inOrd (restL od pre)) ∧ Only (fun b => b = m0 ∨ Wu.heap.size ≤ b) Wu Wy)
        (fun cd Mz Wy => cd = .exit 2 ∧ MapOn Wy m0 od.length (newL T U).length (inOrd (newL T U)) ∧ Only (fun b => b = m0 ∨ Wu.heap.size ≤ b) Wu Wy) ?hI2 ?hIx2 ⟨by rw [restL_nil]; exact Hmu.out, Only.refl _ _⟩ ?a2 ?assign2 ?body2 ?done2 ?stop2
      case hI2 =>
        rintro pre Mz Wa Wb ⟨h1, h2⟩ ho
        exact ⟨h1.keep (ho.block _ h1.lt (fun hb => by omega)), h2.then_ ho (fun b1 hb _ => .inr hb.1)⟩
      case hIx2 =>
        rintro cd Mz Wa Wb ⟨h0, h1, h2⟩ ho
        exact ⟨h0, h1.keep (ho.block _ h1.lt (fun hb => by omega)), h2.then_ ho (fun b1 hb _ => .inr hb.1)⟩
      case assign2 =>
        rintro l' x Wy K hK
        gi_wp2
        exact hK
      case body2 =>
        rintro l' pre x My Wy hpre hszy hMy ⟨hmy, hoy⟩
        have cby : Wy.cell? ⟨m0 + 1, 0, none⟩ = some (.map (some m0)) := by
          rw [cell_of_row _ _ _ _ _ _ ((hoy.block (m0 + 1) (by omega) (by omega)).trans Hbmu.out)]; rfl
        have hxU : x < N.length := by
          have h1 : x ∈ addNew [] U.vars := hpre.subset (by simp)
          exact (HU.out.vars_ok Hh.out.cls Hks.out x (by simpa using (addNew_mem _ _ _).1 h1)).1
        obtain ⟨lr, hlr⟩ : ∃ lr, restL od pre = lr := ⟨_, rfl⟩
        have hlrn : lr.Nodup := by rw [← hlr]; exact Hodn.out.sublist List.filter_sublist
        have Hsn := hide (restL_snoc od pre x)
        rw [hlr] at hmy Hsn
        obtain ⟨l2, hl2⟩ : ∃ l2, lr.filter (fun v => decide (v ≠ x)) = l2 := ⟨_, rfl⟩
        have hl2n := filter_ne_len x lr hlrn
        rw [hl2] at hl2n Hsn
        have Hl2 := hide hl2; have Hl2n := hide hl2n; have Hmy := hide hmy; have Hoy := hide hoy; have Hpre := hide hpre
        have Hfin : Hid (l2 = [] → newL T U = []) := hide (fun e => by
          rw [← restL_new, Hod.out, List.eq_nil_iff_forall_not_mem]
          intro u hu
          have h1 := List.mem_filter.1 hu
          have h2 : u ∈ restL od (pre ++ [x]) := by
            refine List.mem_filter.2 ⟨h1.1, ?_⟩
            have h3 : u ∉ addNew [] U.vars := by simpa using h1.2
            have h4 : u ∉ pre ++ [x] := fun hm => h3 (Hpre.out.subset hm)
            simpa using h4
          rw [Hsn.out, e] at h2; simp at h2)
        have hmx : m0 < Wy.heap.size := hmy.lt
        have hlrle : lr.length ≤ od.length := by rw [← hlr]; exact List.length_filter_le _ _
        have hdel : Hid ((if decide (x ∈ lr) = true then lr.length - 1 else lr.length) = l2.length) := hide (by rw [hl2n]; simp)
        clear hmy hoy hpre hlr hlrn hl2 hl2n
        have hlrl : lr.length ≤ 300 := Nat.le_trans hlrle hodl
        gi_wp2_with (first | (gi_at_delete; refine wpListIn_on_delete rfl (.tmp 49) (.tmp 50) rfl m0 od.length lr.length (inOrd lr) rfl Hmy.out x rfl (by omega) ?_; intro W4 M4 hg4; have ho4 : Only (fun b => b = m0) Wy W4 := (only_of_grown hg4).mono (fun b _ e => by injection e with e; exact e.symm); rw [inOrd_del, Hl2.out, inOrd_some, hdel.out] at M4; have HM4 := hide M4; have Ho4 := hide ho4; have c4 : W4.cell? ⟨m0 + 1, 0, none⟩ = some (.map (some m0)) := (World.cell?_of_block (a := ⟨m0 + 1, 0, none⟩) (ho4.block (m0 + 1) (by omega) (by omega))).trans cby; clear M4 hg4 ho4) | (gi_at_len; refine wpListIn_on_len rfl (.tmp 51) rfl m0 od.length l2.length (inOrd l2) rfl HM4.out ?_))
        · rename_i he
          have hl20 : l2 = [] := List.eq_nil_of_length_eq_zero (by simpa using he)
          have hM := HM4.out
          rw [hl20] at hM
          refine ⟨Ho4.out.mono (fun b _ e => .inl e), My, ⟨rfl, by rw [Hfin.out hl20]; exact hM, Hoy.out.then_ Ho4.out (fun b hb _ => .inl hb)⟩, fun b hb => .inl hb⟩
        · refine ⟨⟨My, ⟨by rw [Hsn.out]; exact HM4.out, Hoy.out.then_ Ho4.out (fun b hb _ => .inl hb)⟩, fun b hb => .inl hb⟩, Ho4.out.mono (fun b _ e => .inl e)⟩
      case done2 =>
        rintro My Wy hszy hMy ⟨hmy, hoy⟩ hKy
        have Hmy : Hid (MapOn Wy m0 od.length (newL T U).length (inOrd (newL T U))) := hide (by
          have h1 := restL_new T U
          rw [Hod.out] at h1
          rw [← h1]; exact hmy)
        clear hmy
        have hfy : ∀ b, b < Wu.heap.size → b ≠ m0 → Wy.heap[b]? = Wu.heap[b]? := fun b h1 h2 => hoy.block b h1 (by omega)
        have hzy := hoy.size
        have Hly := hide (Hlu.out.keep hoy (fun b hb => by
          have h1 : ¬ b < w.heap.size := by rcases hb with hb | hb <;> omega
          exact ⟨fun hf => h1 (Hh.out.ltW b hf), fun hf => h1 (Hh.out.ltR b hf)⟩))
        have HBy : Hid (Below w.heap.size w Wy) := hide (Only.below_trans HBu.out hoy (fun i _ hb => by rcases hb with hb | hb <;> omega) HBu.out.size)
        have Hby := hide ((hfy (m0 + 1) (by omega) (by omega)).trans Hbmu.out)
        have Hoy := hide ((hfy (m0 + 2) (by omega) (by omega)).trans Hvou.out)
        have Hry := hide (own_keep Hrou.out (fun b hb => hfy b (Hrou.out.lt b hb).2 (by have := (Hrou.out.lt b hb).1; omega)))
        have HKy2 : Hid (Marked [Wu.heap.size, Wv.heap.size] Wy) := hide ⟨by simp; omega, fun D hD => by
          simp at hD
          rcases hD with rfl | rfl
          · exact hKy
          · exact (hfy _ (by omega) (by omega)).trans HKu.out⟩
        have HKy := HKy2
        have HDy : Hid (∀ D ∈ [Wu.heap.size, Wv.heap.size], w.heap.size ≤ D ∧ D < Wy.heap.size) := hide (fun D hD => by
          simp at hD
          rcases hD with rfl | rfl <;> omega)
        have hm2y : m0 + 2 < Wy.heap.size := by omega
        have hwy : w.heap.size ≤ Wy.heap.size := by omega
        clear hfy hoy hKy HKy2 hsq hod0
        obtain ⟨Ao, co, hvo3, hNo, hlo⟩ := nats_of_own Hry.out
        subst hvo3
        have HNo := hide hNo; have Hlo := hide hlo
        have cbo : Wy.cell? ⟨m0 + 1 + 1, 0, none⟩ = some (.slice Ao od.length co) := (one_cell Hoy.out).1
        have hlm : m0 + 1 + 1 < Wy.heap.size := by omega
        have hb5 : Below Wy.heap.size Wy (Wy.alloc (Obj.map #[] 0)) := (Below.refl _ _).alloc (Nat.le_refl _) _
        have cbo5 : (Wy.alloc (Obj.map #[] 0)).cell? ⟨m0 + 1 + 1, 0, none⟩ = some (.slice Ao od.length co) := (hb5.cell (p := ⟨m0 + 1 + 1, 0, none⟩) hlm).trans cbo
        have hm5 : MapOn (Wy.alloc (Obj.map #[] 0)) Wy.heap.size 0 0 (mpOf N.length []) := by rw [mpOf_nil]; exact MapOn.new Wy
        obtain ⟨m1, hm1⟩ : ∃ m1, Wy.heap.size = m1 := ⟨_, rfl⟩
        have hz5 : (Wy.alloc (Obj.map #[] 0)).heap.size = m1 + 1 := by rw [World.size_alloc, hm1]
        have HB5 := hide (HBy.out.trans (hb5.mono HBy.out.size))
        have HNv0 : Hid (NvAt (Wy.alloc (Obj.map #[] 0)) Wr Rd g m1 N c [] (Wy.alloc (Obj.map #[] 0))) := hide ⟨⟨Wr, N, c, Hly.out.later hb5, NewVars.zero _ _, by rw [hm1] at hm5; exact hm5, fun b hb => .inl hb⟩, Only.refl _ _⟩
        have hzm1 : m1 ≤ Wy.heap.size := by omega
        have hzm2 : Wy.heap.size ≤ m1 := by omega
        have hz5a : m1 + 1 ≤ (Wy.alloc (Obj.map #[] 0)).heap.size := by omega
        have Hb5 := hide hb5
        clear hm5 hz5 hNo hlo hb5
        gi_wp2
        obtain ⟨W5, hW5⟩ : ∃ W5, Wy.alloc (Obj.map #[] 0) = W5 := ⟨_, rfl⟩
        rw [hW5] at HNv0 HB5 Hb5 cbo5 hz5a
        simp only [hW5, hm1]
        clear hW5 hm1 cbo
        gi_loopw [57] (fun vj wj => ∃ j : Nat, vj = .int .i64 j ∧ j ≤ od.length ∧ Hid (NvAt W5 Wr Rd g m1 N c ((od.take j).filter (fun v => decide (v ∉ U.vars))) wj)) (fun vj _ => od.length - (intOf vj).toNat)
        case atStart => exact ⟨0, rfl, by omega, HNv0⟩
        case round =>
          obtain ⟨j, rfl, hj, HNv⟩ := hrel
          clear HNv0 cbo5
          have hzw := HNv.out.only.size
          have hold : ∀ b, w.heap.size ≤ b → b < m1 → wr.heap[b]? = Wy.heap[b]? := fun b h1 h2 => (HNv.out.only.block b (by omega) (by
            rintro (hf | hf)
            · have := Hh.out.ltW b hf; omega
            · omega)).trans (Hb5.out.block b (by omega))
          have Hold := hide hold
          clear hold
          by_cases hlt : j < od.length
          · obtain ⟨bo, oo, hAo, hbo, d0⟩ := HNo.out.at_ j (by simpa [cast] using hlt)
            simp only [cast, List.getElem_map] at d0
            obtain ⟨v, hv⟩ : ∃ v, od[j] = v := ⟨_, rfl⟩
            rw [hv] at d0
            have hbo2 : Wv.heap.size ≤ bo := (Hlo.out _ hAo).1
            have d1 : wr.cell? ⟨bo, oo + j, none⟩ = some (.int .i64 (v : Int)) := (World.cell?_of_block (a := ⟨bo, oo + j, none⟩) (Hold.out bo (by omega) (by omega))).trans d0
            have cbx : wr.cell? ⟨m0 + 1, 0, none⟩ = some (.map (some m0)) := by rw [cell_of_row _ _ _ _ _ _ ((Hold.out (m0 + 1) (by omega) (by omega)).trans Hby.out)]; rfl
            have Hm := hide (Hmy.out.keep (Hold.out m0 (by omega) (by omega)))
            have hvm : v ∈ od := by rw [← hv]; exact List.getElem_mem _
            have hvn := Hodv.out v hvm
            have hnn : ((od.take j).filter (fun v => decide (v ∉ U.vars))).length ≤ 300 := by
              have h1 := List.length_filter_le (fun v => decide (v ∉ U.vars)) (od.take j)
              have h2 : (od.take j).length ≤ j := List.length_take_le _ _
              omega
            have hvj : v ∉ (od.take j).filter (fun v => decide (v ∉ U.vars)) := by
              intro hv2
              have hv2 := (List.mem_filter.1 hv2).1
              obtain ⟨i, hi, hiv⟩ := List.mem_iff_getElem.1 hv2
              have hi2 : i < j := by simp at hi; omega
              have h1 : od[i]'(by omega) = od[j] := by rw [hv, ← hiv]; simp
              have := (List.getElem_inj Hodn.out).1 h1
              omega
            have Hsn := hide (filter_take_succ (p := fun v => decide (v ∉ U.vars)) hlt)
            rw [hv] at Hsn
            have Hmem : Hid (v ∈ newL T U ↔ v ∉ U.vars) := hide (by
              rw [newL_mem]
              have : v ∈ T.vars := by
                have h1 := hvm
                rw [← Hod.out] at h1
                simpa using (addNew_mem _ _ _).1 h1
              simp [this])
            have HAo := hide hAo
            subst hAo
            clear hv d0 hvm
            by_cases hvu : v ∉ U.vars
            · have Hin : Hid (inOrd (newL T U) v = some 1) := hide (by unfold inOrd; rw [if_pos (Hmem.out.2 hvu)])
              have Hsn2 : Hid ((od.take (j + 1)).filter (fun v => decide (v ∉ U.vars)) = (od.take j).filter (fun v => decide (v ∉ U.vars)) ++ [v]) := hide (by rw [Hsn.out, if_pos (by simpa using hvu)])
              obtain ⟨nlj, hnlj⟩ : ∃ nlj, (od.take j).filter (fun v => decide (v ∉ U.vars)) = nlj := ⟨_, rfl⟩
              rw [hnlj] at HNv hnn hvj Hsn2
              obtain ⟨Wr1, N1, c1, hl1, hnv1, hmp1, hwr1⟩ := HNv.out.out
              have hn1 := hnv1.len
              have hmany : N1.length + 1 ≤ 1000000 := by omega
              have hm1w : ¬ Wr1 m1 := fun hf => by
                rcases hwr1 _ hf with h1 | h1
                · have := Hh.out.ltW _ h1; omega
                · omega
              have HL1 := hide hl1; have Hnv1 := hide hnv1; have Hmp1 := hide hmp1; have Hwr1 := hide hwr1
              have hnl1 : N1.length < 4611686018427387904 := by omega
              clear hl1 hnv1 hmp1 hwr1 hnlj hn1
              gi_wp2_with (gi_at_lookup; refine wpListIn_on_get rfl (.tmp 61) (.tmp 62) rfl m0 od.length (newL T U).length (inOrd (newL T U)) rfl Hm.out v rfl (by omega) ?_; rw [Hin.out])
              refine ⟨trivial, (callsIn_wide.2 (livef_var HL1.out hmany)).mono ?_⟩
              rintro e w6 ⟨rfl, hl6, ho6⟩
              have HM6 := hide (Hmp1.out.keep (ho6.block m1 Hmp1.out.lt hm1w))
              have Hl6 := hide hl6; have Ho6 := hide ho6
              have hz6 := ho6.size
              clear hl6 ho6 d1 cbx
              gi_wp2_with (gi_at_mapUpdate; refine wpListIn_on_set rfl (.tmp 65) (.tmp 66) (.tmp 68) rfl m1 nlj.length nlj.length (mpOf N.length nlj) rfl HM6.out (by omega) v N1.length rfl rfl (by omega) hnl1 ?_; intro w7 M7 hg7; have HM7 := hide M7; have Hg7 := hide hg7; clear M7 hg7)
              have HNx : Hid (NvAt W5 Wr Rd g m1 N c (nlj ++ [v]) w7) := hide (by
                have ho7 : Only (fun b => b = m1) w6 w7 := (only_of_grown Hg7.out).mono fun b _ e => by injection e with e; exact e.symm
                have hz7 := ho7.size
                have hM := HM7.out
                have hnone : mpOf N.length nlj v = none := by unfold mpOf; rw [if_neg hvj]
                have hn1 := Hnv1.out.len
                rw [hnone, hn1, ← mpOf_snoc _ _ _ hvj] at hM
                have hl7 := Hl6.out.keep ho7 (fun b hb => by
                  subst hb
                  refine ⟨fun hf => ?_, fun hf => by have := Hh.out.ltR _ hf; omega⟩
                  rcases hf with hf | hf
                  · exact hm1w hf
                  · have := Hmp1.out.lt; omega)
                refine ⟨⟨_, _, _, hl7, by rw [List.length_append]; exact Hnv1.out.step HL1.out.cls hl7.cls, by rw [List.length_append]; exact hM, fun b hb => ?_⟩, ?_⟩
                · rcases hb with hb | hb
                  · rcases Hwr1.out b hb with h1 | h1
                    · exact .inl h1
                    · exact .inr (by omega)
                  · exact .inr (by omega)
                · have k1 : Only (fun b => Wr b ∨ b = m1) W5 w6 := HNv.out.only.then_ Ho6.out (fun b hb hl => by
                    rcases Hwr1.out b hb with h1 | h1
                    · exact .inl h1
                    · omega)
                  exact k1.then_ ho7 (fun b hb hl => .inr hb))
              go_roundw
              case measure => simp [intOf]; omega
              case rel => exact ⟨j + 1, by go_num, by omega, by rw [Hsn2.out]; exact HNx⟩
            · have Hin : Hid (inOrd (newL T U) v = none) := hide (by unfold inOrd; rw [if_neg (fun h => hvu (Hmem.out.1 h))])
              have Hsn2 : Hid ((od.take (j + 1)).filter (fun v => decide (v ∉ U.vars)) = (od.take j).filter (fun v => decide (v ∉ U.vars))) := hide (by rw [Hsn.out, if_neg (by simpa using hvu), List.append_nil])
              gi_wp2_with (gi_at_lookup; refine wpListIn_on_get rfl (.tmp 61) (.tmp 62) rfl m0 od.length (newL T U).length (inOrd (newL T U)) rfl Hm.out v rfl (by omega) ?_; rw [Hin.out])
              go_roundw
              case measure => simp [intOf]; omega
              case rel => exact ⟨j + 1, by go_num, by omega, by rw [Hsn2.out]; exact HNv⟩
          · obtain rfl : j = od.length := by omega
            have hnl9 : (od.take od.length).filter (fun v => decide (v ∉ U.vars)) = newL T U := by rw [List.take_length, ← Hod.out]; rfl
            rw [hnl9] at HNv
            obtain ⟨Wr1, N1, c1, hl1, hnv1, hmp1, hwr1⟩ := HNv.out.out
            have hnlc := newL_len T U
            have hn1 := hnv1.len
            have hm1w : ¬ Wr1 m1 := fun hf => by
              rcases hwr1 _ hf with h1 | h1
              · have := Hh.out.ltW _ h1; omega
              · omega
            have hm1r : ¬ Rd m1 := fun hf => by have := Hh.out.ltR _ hf; omega
            have HPre : Hid (CopyPre wr Wr1 Rd g m1 N1 c1 (sgOf N.length (newL T U)) (mpOf N.length (newL T U)) (newL T U).length (newL T U).length T n) := hide ⟨hl1, hmp1, mapOk_new Hh.out.cls hl1.cls hnv1 (fun v hv => tree_var Hh.out.cls (by simpa using hn) HT.out ((newL_mem T U v).1 hv).1), hm1w, hm1r, by omega, HT.out.grown Hh.out.cls hnv1.grown (by simpa using hn), fun u hu hm => by
              unfold mpOf at hm
              by_cases e : u ∈ newL T U
              · rw [if_pos e] at hm; cases hm
              · unfold sgOf; rw [if_neg e], by omega, by omega⟩
            have Hnv1 := hide hnv1; have Hwr1 := hide hwr1
            have hn1a : N1.length ≤ N.length + (newL T U).length := by omega
            have hn1b : N.length + (newL T U).length ≤ N1.length := by omega
            clear hl1 hnv1 hmp1 hwr1 hnl9 hn1 hm1w hm1r
            gi_wp2_with fail
            refine ⟨trivial, (callsIn_wide.2 (copied_any g m1 _ T.cnt n T wr Wr1 Rd N1 c1 _ _ _ (Nat.le_refl _) HPre.out)).mono ?_⟩
            rintro e w7 ⟨a, Wr7, Rd7, N7, c7, mp7, nb7, mb7, rfl, hc7⟩
            have Hc7 := hide hc7
            clear hc7
            gi_wp2
            have hzw7 := Hc7.out.only.size
            have hon7 : Only Wr w w7 := by
              have k1 : Only Wr w W5 := Only.of_below HB5.out _
              have k2 : Only Wr w wr := k1.then_ HNv.out.only (fun b hb hl => by
                rcases hb with hb | hb
                · exact hb
                · omega)
              exact k2.then_ Hc7.out.only (fun b hb hl => by
                rcases hb with hb | hb
                · rcases Hwr1.out b hb with h1 | h1
                  · exact h1
                  · omega
                · omega)
            have hmk : Marked [Wu.heap.size, Wv.heap.size] w7 := HKy.out.keep (fun D hD => by
              have hD1 := HDy.out D hD
              refine (Hc7.out.only.block D (by omega) ?_).trans (Hold.out D (by omega) (by omega))
              rintro (hf | hf)
              · rcases Hwr1.out D hf with h1 | h1
                · have := Hh.out.ltW D h1; omega
                · omega
              · omega)
            refine leaves_marks_res (v := .tuple #[.int .i64 (a : Int), .int .i64 0]) [Wu.heap.size, Wv.heap.size] w7 hmk fun W' ho => ⟨by simp [results, Try.results28, go_sem], ?_⟩
            have hzo := ho.size
            have hDs : ∀ b, b ∈ [Wu.heap.size, Wv.heap.size] → w.heap.size ≤ b ∧ b < m1 := fun b hb => by have := HDy.out b hb; omega
            refine ⟨a, Wr7, Rd7, N7, c7, rfl, Hc7.out.live.keep ho (fun b hb => ?_), Hnv1.out.grown.trans Hc7.out.grown, Hc7.out.lt, Hc7.out.tree, by have := Hc7.out.grown.len; omega, by have := Hc7.out.len; omega, hon7.then_ ho (fun b hb hl => by have := hDs b hb; omega), fun b hb => ?_, fun b hb => ?_⟩
            · have h0 := hDs b hb
              refine ⟨fun hf => ?_, fun hf => ?_⟩
              · rcases Hc7.out.wok b hf with h1 | h1
                · rcases Hwr1.out b h1 with h2 | h2
                  · have := Hh.out.ltW b h2; omega
                  · omega
                · omega
              · rcases Hc7.out.rok b hf with h1 | h1
                · have := Hh.out.ltR b h1; omega
                · omega
            · rcases Hc7.out.wok b hb with h1 | h1
              · rcases Hwr1.out b h1 with h2 | h2
                · exact .inl h2
                · exact .inr (by omega)
              · exact .inr (by omega)
            · rcases Hc7.out.rok b hb with h1 | h1
              · exact .inl h1
              · exact .inr (by omega)
      case stop2 =>
        rintro cd My Wy hszy hMy ⟨rfl, hmy, hoy⟩ hKy
        have Hmy := hide hmy
        clear hmy
        have hfy : ∀ b, b < Wu.heap.size → b ≠ m0 → Wy.heap[b]? = Wu.heap[b]? := fun b h1 h2 => hoy.block b h1 (by omega)
        have hzy := hoy.size
        have Hly := hide (Hlu.out.keep hoy (fun b hb => by
          have h1 : ¬ b < w.heap.size := by rcases hb with hb | hb <;> omega
          exact ⟨fun hf => h1 (Hh.out.ltW b hf), fun hf => h1 (Hh.out.ltR b hf)⟩))
        have HBy : Hid (Below w.heap.size w Wy) := hide (Only.below_trans HBu.out hoy (fun i _ hb => by rcases hb with hb | hb <;> omega) HBu.out.size)
        have Hby := hide ((hfy (m0 + 1) (by omega) (by omega)).trans Hbmu.out)
        have Hoy := hide ((hfy (m0 + 2) (by omega) (by omega)).trans Hvou.out)
        have Hry := hide (own_keep Hrou.out (fun b hb => hfy b (Hrou.out.lt b hb).2 (by have := (Hrou.out.lt b hb).1; omega)))
        have HKy2 : Hid (Marked [Wu.heap.size, Wv.heap.size] Wy) := hide ⟨by simp; omega, fun D hD => by
          simp at hD
          rcases hD with rfl | rfl
          · exact hKy
          · exact (hfy _ (by omega) (by omega)).trans HKu.out⟩
        have HKy := HKy2
        have HDy : Hid (∀ D ∈ [Wu.heap.size, Wv.heap.size], w.heap.size ≤ D ∧ D < Wy.heap.size) := hide (fun D hD => by
          simp at hD
          rcases hD with rfl | rfl <;> omega)
        have hm2y : m0 + 2 < Wy.heap.size := by omega
        have hwy : w.heap.size ≤ Wy.heap.size := by omega
        clear hfy hoy hKy HKy2 hsq hod0
        obtain ⟨Ao, co, hvo3, hNo, hlo⟩ := nats_of_own Hry.out
        subst hvo3
        have HNo := hide hNo; have Hlo := hide hlo
        have cbo : Wy.cell? ⟨m0 + 1 + 1, 0, none⟩ = some (.slice Ao od.length co) := (one_cell Hoy.out).1
        have hlm : m0 + 1 + 1 < Wy.heap.size := by omega
        have hb5 : Below Wy.heap.size Wy (Wy.alloc (Obj.map #[] 0)) := (Below.refl _ _).alloc (Nat.le_refl _) _
        have cbo5 : (Wy.alloc (Obj.map #[] 0)).cell? ⟨m0 + 1 + 1, 0, none⟩ = some (.slice Ao od.length co) := (hb5.cell (p := ⟨m0 + 1 + 1, 0, none⟩) hlm).trans cbo
        have hm5 : MapOn (Wy.alloc (Obj.map #[] 0)) Wy.heap.size 0 0 (mpOf N.length []) := by rw [mpOf_nil]; exact MapOn.new Wy
        obtain ⟨m1, hm1⟩ : ∃ m1, Wy.heap.size = m1 := ⟨_, rfl⟩
        have hz5 : (Wy.alloc (Obj.map #[] 0)).heap.size = m1 + 1 := by rw [World.size_alloc, hm1]
        have HB5 := hide (HBy.out.trans (hb5.mono HBy.out.size))
        have HNv0 : Hid (NvAt (Wy.alloc (Obj.map #[] 0)) Wr Rd g m1 N c [] (Wy.alloc (Obj.map #[] 0))) := hide ⟨⟨Wr, N, c, Hly.out.later hb5, NewVars.zero _ _, by rw [hm1] at hm5; exact hm5, fun b hb => .inl hb⟩, Only.refl _ _⟩
        have hzm1 : m1 ≤ Wy.heap.size := by omega
        have hzm2 : Wy.heap.size ≤ m1 := by omega
        have hz5a : m1 + 1 ≤ (Wy.alloc (Obj.map #[] 0)).heap.size := by omega
        have Hb5 := hide hb5
        clear hm5 hz5 hNo hlo hb5
        gi_wp2
        obtain ⟨W5, hW5⟩ : ∃ W5, Wy.alloc (Obj.map #[] 0) = W5 := ⟨_, rfl⟩
        rw [hW5] at HNv0 HB5 Hb5 cbo5 hz5a
        simp only [hW5, hm1]
        clear hW5 hm1 cbo
        gi_loopw [57] (fun vj wj => ∃ j : Nat, vj = .int .i64 j ∧ j ≤ od.length ∧ Hid (NvAt W5 Wr Rd g m1 N c ((od.take j).filter (fun v => decide (v ∉ U.vars))) wj)) (fun vj _ => od.length - (intOf vj).toNat)
        case atStart => exact ⟨0, rfl, by omega, HNv0⟩
        case round =>
          obtain ⟨j, rfl, hj, HNv⟩ := hrel
          clear HNv0 cbo5
          have hzw := HNv.out.only.size
          have hold : ∀ b, w.heap.size ≤ b → b < m1 → wr.heap[b]? = Wy.heap[b]? := fun b h1 h2 => (HNv.out.only.block b (by omega) (by
            rintro (hf | hf)
            · have := Hh.out.ltW b hf; omega
            · omega)).trans (Hb5.out.block b (by omega))
          have Hold := hide hold
          clear hold
          by_cases hlt : j < od.length
          · obtain ⟨bo, oo, hAo, hbo, d0⟩ := HNo.out.at_ j (by simpa [cast] using hlt)
            simp only [cast, List.getElem_map] at d0
            obtain ⟨v, hv⟩ : ∃ v, od[j] = v := ⟨_, rfl⟩
            rw [hv] at d0
            have hbo2 : Wv.heap.size ≤ bo := (Hlo.out _ hAo).1
            have d1 : wr.cell? ⟨bo, oo + j, none⟩ = some (.int .i64 (v : Int)) := (World.cell?_of_block (a := ⟨bo, oo + j, none⟩) (Hold.out bo (by omega) (by omega))).trans d0
            have cbx : wr.cell? ⟨m0 + 1, 0, none⟩ = some (.map (some m0)) := by rw [cell_of_row _ _ _ _ _ _ ((Hold.out (m0 + 1) (by omega) (by omega)).trans Hby.out)]; rfl
            have Hm := hide (Hmy.out.keep (Hold.out m0 (by omega) (by omega)))
            have hvm : v ∈ od := by rw [← hv]; exact List.getElem_mem _
            have hvn := Hodv.out v hvm
            have hnn : ((od.take j).filter (fun v => decide (v ∉ U.vars))).length ≤ 300 := by
              have h1 := List.length_filter_le (fun v => decide (v ∉ U.vars)) (od.take j)
              have h2 : (od.take j).length ≤ j := List.length_take_le _ _
              omega
            have hvj : v ∉ (od.take j).filter (fun v => decide (v ∉ U.vars)) := by
              intro hv2
              have hv2 := (List.mem_filter.1 hv2).1
              obtain ⟨i, hi, hiv⟩ := List.mem_iff_getElem.1 hv2
              have hi2 : i < j := by simp at hi; omega
              have h1 : od[i]'(by omega) = od[j] := by rw [hv, ← hiv]; simp
              have := (List.getElem_inj Hodn.out).1 h1
              omega
            have Hsn := hide (filter_take_succ (p := fun v => decide (v ∉ U.vars)) hlt)
            rw [hv] at Hsn
            have Hmem : Hid (v ∈ newL T U ↔ v ∉ U.vars) := hide (by
              rw [newL_mem]
              have : v ∈ T.vars := by
                have h1 := hvm
                rw [← Hod.out] at h1
                simpa using (addNew_mem _ _ _).1 h1
              simp [this])
            have HAo := hide hAo
            subst hAo
            clear hv d0 hvm
            by_cases hvu : v ∉ U.vars
            · have Hin : Hid (inOrd (newL T U) v = some 1) := hide (by unfold inOrd; rw [if_pos (Hmem.out.2 hvu)])
              have Hsn2 : Hid ((od.take (j + 1)).filter (fun v => decide (v ∉ U.vars)) = (od.take j).filter (fun v => decide (v ∉ U.vars)) ++ [v]) := hide (by rw [Hsn.out, if_pos (by simpa using hvu)])
              obtain ⟨nlj, hnlj⟩ : ∃ nlj, (od.take j).filter (fun v => decide (v ∉ U.vars)) = nlj := ⟨_, rfl⟩
              rw [hnlj] at HNv hnn hvj Hsn2
              obtain ⟨Wr1, N1, c1, hl1, hnv1, hmp1, hwr1⟩ := HNv.out.out
              have hn1 := hnv1.len
              have hmany : N1.length + 1 ≤ 1000000 := by omega
              have hm1w : ¬ Wr1 m1 := fun hf => by
                rcases hwr1 _ hf with h1 | h1
                · have := Hh.out.ltW _ h1; omega
                · omega
              have HL1 := hide hl1; have Hnv1 := hide hnv1; have Hmp1 := hide hmp1; have Hwr1 := hide hwr1
              have hnl1 : N1.length < 4611686018427387904 := by omega
              clear hl1 hnv1 hmp1 hwr1 hnlj hn1
              gi_wp2_with (gi_at_lookup; refine wpListIn_on_get rfl (.tmp 61) (.tmp 62) rfl m0 od.length (newL T U).length (inOrd (newL T U)) rfl Hm.out v rfl (by omega) ?_; rw [Hin.out])
              refine ⟨trivial, (callsIn_wide.2 (livef_var HL1.out hmany)).mono ?_⟩
              rintro e w6 ⟨rfl, hl6, ho6⟩
              have HM6 := hide (Hmp1.out.keep (ho6.block m1 Hmp1.out.lt hm1w))
              have Hl6 := hide hl6; have Ho6 := hide ho6
              have hz6 := ho6.size
              clear hl6 ho6 d1 cbx
              gi_wp2_with (gi_at_mapUpdate; refine wpListIn_on_set rfl (.tmp 65) (.tmp 66) (.tmp 68) rfl m1 nlj.length nlj.length (mpOf N.length nlj) rfl HM6.out (by omega) v N1.length rfl rfl (by omega) hnl1 ?_; intro w7 M7 hg7; have HM7 := hide M7; have Hg7 := hide hg7; clear M7 hg7)
              have HNx : Hid (NvAt W5 Wr Rd g m1 N c (nlj ++ [v]) w7) := hide (by
                have ho7 : Only (fun b => b = m1) w6 w7 := (only_of_grown Hg7.out).mono fun b _ e => by injection e with e; exact e.symm
                have hz7 := ho7.size
                have hM := HM7.out
                have hnone : mpOf N.length nlj v = none := by unfold mpOf; rw [if_neg hvj]
                have hn1 := Hnv1.out.len
                rw [hnone, hn1, ← mpOf_snoc _ _ _ hvj] at hM
                have hl7 := Hl6.out.keep ho7 (fun b hb => by
                  subst hb
                  refine ⟨fun hf => ?_, fun hf => by have := Hh.out.ltR _ hf; omega⟩
                  rcases hf with hf | hf
                  · exact hm1w hf
                  · have := Hmp1.out.lt; omega)
                refine ⟨⟨_, _, _, hl7, by rw [List.length_append]; exact Hnv1.out.step HL1.out.cls hl7.cls, by rw [List.length_append]; exact hM, fun b hb => ?_⟩, ?_⟩
                · rcases hb with hb | hb
                  · rcases Hwr1.out b hb with h1 | h1
                    · exact .inl h1
                    · exact .inr (by omega)
                  · exact .inr (by omega)
                · have k1 : Only (fun b => Wr b ∨ b = m1) W5 w6 := HNv.out.only.then_ Ho6.out (fun b hb hl => by
                    rcases Hwr1.out b hb with h1 | h1
                    · exact .inl h1
                    · omega)
                  exact k1.then_ ho7 (fun b hb hl => .inr hb))
              go_roundw
              case measure => simp [intOf]; omega
              case rel => exact ⟨j + 1, by go_num, by omega, by rw [Hsn2.out]; exact HNx⟩
            · have Hin : Hid (inOrd (newL T U) v = none) := hide (by unfold inOrd; rw [if_neg (fun h => hvu (Hmem.out.1 h))])
              have Hsn2 : Hid ((od.take (j + 1)).filter (fun v => decide (v ∉ U.vars)) = (od.take j).filter (fun v => decide (v ∉ U.vars))) := hide (by rw [Hsn.out, if_neg (by simpa using hvu), List.append_nil])
              gi_wp2_with (gi_at_lookup; refine wpListIn_on_get rfl (.tmp 61) (.tmp 62) rfl m0 od.length (newL T U).length (inOrd (newL T U)) rfl Hm.out v rfl (by omega) ?_; rw [Hin.out])
              go_roundw
              case measure => simp [intOf]; omega
              case rel => exact ⟨j + 1, by go_num, by omega, by rw [Hsn2.out]; exact HNv⟩
          · obtain rfl : j = od.length := by omega
            have hnl9 : (od.take od.length).filter (fun v => decide (v ∉ U.vars)) = newL T U := by rw [List.take_length, ← Hod.out]; rfl
            rw [hnl9] at HNv
            obtain ⟨Wr1, N1, c1, hl1, hnv1, hmp1, hwr1⟩ := HNv.out.out
            have hnlc := newL_len T U
            have hn1 := hnv1.len
            have hm1w : ¬ Wr1 m1 := fun hf => by
              rcases hwr1 _ hf with h1 | h1
              · have := Hh.out.ltW _ h1; omega
              · omega
            have hm1r : ¬ Rd m1 := fun hf => by have := Hh.out.ltR _ hf; omega
            have HPre : Hid (CopyPre wr Wr1 Rd g m1 N1 c1 (sgOf N.length (newL T U)) (mpOf N.length (newL T U)) (newL T U).length (newL T U).length T n) := hide ⟨hl1, hmp1, mapOk_new Hh.out.cls hl1.cls hnv1 (fun v hv => tree_var Hh.out.cls (by simpa using hn) HT.out ((newL_mem T U v).1 hv).1), hm1w, hm1r, by omega, HT.out.grown Hh.out.cls hnv1.grown (by simpa using hn), fun u hu hm => by
              unfold mpOf at hm
              by_cases e : u ∈ newL T U
              · rw [if_pos e] at hm; cases hm
              · unfold sgOf; rw [if_neg e], by omega, by omega⟩
            have Hnv1 := hide hnv1; have Hwr1 := hide hwr1
            have hn1a : N1.length ≤ N.length + (newL T U).length := by omega
            have hn1b : N.length + (newL T U).length ≤ N1.length := by omega
            clear hl1 hnv1 hmp1 hwr1 hnl9 hn1 hm1w hm1r
            gi_wp2_with fail
            refine ⟨trivial, (callsIn_wide.2 (copied_any g m1 _ T.cnt n T wr Wr1 Rd N1 c1 _ _ _ (Nat.le_refl _) HPre.out)).mono ?_⟩
            rintro e w7 ⟨a, Wr7, Rd7, N7, c7, mp7, nb7, mb7, rfl, hc7⟩
            have Hc7 := hide hc7
            clear hc7
            gi_wp2
            have hzw7 := Hc7.out.only.size
            have hon7 : Only Wr w w7 := by
              have k1 : Only Wr w W5 := Only.of_below HB5.out _
              have k2 : Only Wr w wr := k1.then_ HNv.out.only (fun b hb hl => by
                rcases hb with hb | hb
                · exact hb
                · omega)
              exact k2.then_ Hc7.out.only (fun b hb hl => by
                rcases hb with hb | hb
                · rcases Hwr1.out b hb with h1 | h1
                  · exact h1
                  · omega
                · omega)
            have hmk : Marked [Wu.heap.size, Wv.heap.size] w7 := HKy.out.keep (fun D hD => by
              have hD1 := HDy.out D hD
              refine (Hc7.out.only.block D (by omega) ?_).trans (Hold.out D (by omega) (by omega))
              rintro (hf | hf)
              · rcases Hwr1.out D hf with h1 | h1
                · have := Hh.out.ltW D h1; omega
                · omega
              · omega)
            refine leaves_marks_res (v := .tuple #[.int .i64 (a : Int), .int .i64 0]) [Wu.heap.size, Wv.heap.size] w7 hmk fun W' ho => ⟨by simp [results, Try.results28, go_sem], ?_⟩
            have hzo := ho.size
            have hDs : ∀ b, b ∈ [Wu.heap.size, Wv.heap.size] → w.heap.size ≤ b ∧ b < m1 := fun b hb => by have := HDy.out b hb; omega
            refine ⟨a, Wr7, Rd7, N7, c7, rfl, Hc7.out.live.keep ho (fun b hb => ?_), Hnv1.out.grown.trans Hc7.out.grown, Hc7.out.lt, Hc7.out.tree, by have := Hc7.out.grown.len; omega, by have := Hc7.out.len; omega, hon7.then_ ho (fun b hb hl => by have := hDs b hb; omega), fun b hb => ?_, fun b hb => ?_⟩
            · have h0 := hDs b hb
              refine ⟨fun hf => ?_, fun hf => ?_⟩
              · rcases Hc7.out.wok b hf with h1 | h1
                · rcases Hwr1.out b h1 with h2 | h2
                  · have := Hh.out.ltW b h2; omega
                  · omega
                · omega
              · rcases Hc7.out.rok b hf with h1 | h1
                · have := Hh.out.ltR b h1; omega
                · omega
            · rcases Hc7.out.wok b hb with h1 | h1
              · rcases Hwr1.out b h1 with h2 | h2
                · exact .inl h2
                · exact .inr (by omega)
              · exact .inr (by omega)
            · rcases Hc7.out.rok b hb with h1 | h1
              · exact .inl h1
              · exact .inr (by omega)
end Go.Proofs.Ytafpbdmggnfdnaa
