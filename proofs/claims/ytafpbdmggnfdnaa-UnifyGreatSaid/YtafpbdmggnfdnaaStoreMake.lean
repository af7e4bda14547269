/- The program's store: Clone, Var, Con, Pair, Arrow. -/
import Derived.Test.YtafpbdmggnfdnaaStoreAdd
import Derived.Test.YtafpbdmggnfdnaaWord
import Derived.Lib.SliceRun
namespace Go.Proofs.Ytafpbdmggnfdnaa
open Go.RowKit
set_option linter.unusedVariables false

theorem ints_of_own {w : World} {base : Nat} {e : TypeId} {v : Value} {xs : List Int} (h : w.ownsRow base e 1 v xs.length (xs.map (Value.int .i64))) :
    ∃ A c, v = .slice A xs.length c ∧ Ints w A xs ∧ (∀ x, A = some x → base ≤ x.block ∧ x.block < w.heap.size) := by
  rcases h.2 with ⟨h1, h2⟩ | ⟨g, cap, cur, h1, h2, h3, h4, h5⟩
  · refine ⟨none, 0, by rw [h1, h2], fun hne => absurd (List.eq_nil_of_length_eq_zero h2) hne, fun x hx => by cases hx⟩
  · have hg : g < w.heap.size := (Array.getElem?_eq_some_iff.1 h3).1
    refine ⟨_, cap, h1, fun hne => ⟨g, 0, rfl, hg, fun k x hk => ?_⟩, fun x hx => ?_⟩
    · have := h.cells (g := g) (by rw [h1]; rfl) k (.int .i64 x) (by rw [List.getElem?_map, hk]; rfl)
      rcases Nat.eq_zero_or_pos k with rfl | hp
      · simpa [Addr.add] using this
      · simpa [Addr.add, show ¬ k = 0 by omega] using this
    · injection hx with hx; subst hx; exact ⟨h2, hg⟩

/-- A new slice of these integers. -/
def NewInts (w : World) (xs : List Int) (e : Ending) (w' : World) : Prop :=
  ∃ A c, e = .returned (.slice A xs.length c) ∧ Ints w' A xs ∧ (∀ x, A = some x → w.heap.size ≤ x.block ∧ x.block < w'.heap.size) ∧ Below w.heap.size w w'
theorem addr_add' (b off j : Nat) : (⟨b, off, none⟩ : Addr).add j = ⟨b, off + j, none⟩ := by
  rcases Nat.eq_zero_or_pos j with rfl | hp
  · simp [Addr.add]
  · simp [Addr.add, show ¬ j = 0 by omega]
theorem ints_cells {w : World} {a : Addr} {xs : List Int} (h : Ints w (some a) xs) (t : TypeId) : ∀ (j : Nat) (u : Value), (xs.map (Value.int .i64))[j]? = some u → (w.alloc (.cells #[] t)).cell? (a.add j) = some u := by
  intro j u hu
  rw [List.getElem?_map] at hu
  obtain ⟨x, hx, hxu⟩ := Option.map_eq_some_iff.1 hu
  have hne : xs ≠ [] := by rintro rfl; simp at hx
  obtain ⟨b, off, e, hb, hcc⟩ := h hne
  obtain rfl : a = ⟨b, off, none⟩ := by injection e
  rw [addr_add', World.cell?_alloc_lt w _ _ hb, ← hxu]
  exact hcc j x hx
set_option maxHeartbeats 1000000 in
theorem clone_any (A : Option Addr) (c : Nat) (xs : List Int) (w : World) (h : Ints w A xs) (hl : xs.length ≤ 1000000) : Calls Try.prog 51 #[.slice A xs.length c] w (NewInts w xs) := by
  obtain ⟨i1, ki, kz0, kz1, kz2⟩ := info_parts intInfo
  have q : ∀ (W : World) (a : Option Addr) (n c n' c' : Nat), (binOp .eql 30 (.slice a n c) (.slice none n' c')).run Try.prog W = .ok (.bool a.isNone) W := fun W a n c n' c' => Lib.run_eql_slice_nil W _ _ a n c n' c' Try.underlying30
  rcases A with _ | a
  · have hx : xs = [] := by
      rcases xs with _ | ⟨x, xs⟩
      · rfl
      · obtain ⟨b, off, e, _⟩ := h (by simp); cases e
    subst hx
    go_enter Try.func51, Try.ntmps51
    go_wp2
    go_ret
    exact ⟨none, 0, rfl, h, (fun x hx => by cases hx), Below.refl _ _⟩
  · have hc := ints_cells h 3
    have HC := hide hc; clear hc
    have Ki := hide ki; have Kz0 := hide kz0; have Kz1 := hide kz1; have Kz2 := hide kz2
    clear ki kz0 kz1 kz2
    have HO := hide (World.ownsRow_made (base := w.heap.size) (e := 3) (size := 1) w #[] 0 (Nat.le_refl _) (Nat.zero_le _) rfl)
    have H1 : Hid (∀ u ∈ xs.map (Value.int .i64), u.oneCell' = true) := hide (ints_oneCell .i64 xs)
    go_enter Try.func51, Try.ntmps51
    go_wp2_with (at_builtin; refine wpList_append_own _ rfl (.tmp 5) (.tmp 6) 30 rfl w.heap.size 3 i1 (.int .i64 0) 1 8 Try.underlying30 Ki.out Kz0.out Kz1.out Kz2.out rfl (by decide) (.slice (some ⟨w.heap.size, 0, none⟩) 0 0) 0 [] rfl HO.out a xs.length c (xs.map (Value.int .i64)) rfl (by simp) HC.out H1.out (by unfold maxLen; omega) (by omega) (by simp) ?_; intro v' w1 hown hgrow hnil)
    go_ret
    simp only [Nat.zero_add, List.nil_append] at hown
    obtain ⟨A', c', rfl, hI, hB⟩ := ints_of_own hown
    exact ⟨A', c', rfl, hI, hB, ((Below.refl w.heap.size w).alloc (Nat.le_refl _) _).grown hgrow (by simp) (by intro k hk; simp [Value.ownBlock] at hk; omega)⟩

theorem cast_toNat {n : Nat} {xs : List Int} (h : allIn n xs = true) : cast (xs.map Int.toNat) = xs ∧ ∀ a ∈ xs.map Int.toNat, a < n := by
  unfold allIn at h
  rw [List.all_eq_true] at h
  refine ⟨?_, fun a ha => ?_⟩
  · unfold cast
    rw [List.map_map]
    conv => rhs; rw [← List.map_id xs]
    refine List.map_congr_left fun x hx => ?_
    have := h x hx
    simp at this ⊢; omega
  · obtain ⟨x, hx, rfl⟩ := List.mem_map.1 ha
    have := h x hx
    simp at this; omega

/-- A node more, and no error. -/
def MadePost (w : World) (base : Nat) (L : Lay) (S : PS) (p : Nd) (e : Ending) (w' : World) : Prop :=
  e = .returned (.tuple #[.int .i64 (S.nodes.length : Int), .int .i64 0]) ∧ ∃ L', St w' base L' (S.add p) ∧ L'.g = L.g ∧ Only L.fp w w' ∧ (∀ b, L'.fp b → L.fp b ∨ w.heap.size ≤ b) ∧ ∀ (i : Nat) (a : Option Addr × Nat), L'.ad[i]? = some a → L.ad[i]? = some a ∨ ∀ x, a.1 = some x → w.heap.size ≤ x.block
theorem AddPost.made {w w1 w' : World} {base : Nat} {L : Lay} {S : PS} {p : Nd} {A : Option Addr} {e : Ending} (h : AddPost w1 base L S p A e w') (hb : Below w.heap.size w w1) (hA : ∀ x, A = some x → w.heap.size ≤ x.block) : MadePost w base L S p (.returned (.tuple #[.int .i64 (S.nodes.length : Int), .int .i64 0])) w' := by
  obtain ⟨_, L', h1, h2, h3, h4, h5⟩ := h
  exact ⟨rfl, L', h1, h2, (Only.of_below hb _).trans h3, fun b hb' => (h4 b hb').imp id fun h5 => Nat.le_trans hb.size h5, fun i a ha => (h5 i a ha).imp id fun (e : a.1 = A) x hx => hA x (by rw [← e]; exact hx)⟩

def varNd : Nd := ⟨1, ByteArray.empty, []⟩
theorem var_any {w : World} {base : Nat} {L : Lay} {S : PS} (h : St w base L S) (hm : S.nodes.length + 1 ≤ 1000000) :
    Calls Try.prog 26 #[.pointer (some ⟨L.g, 0, none⟩)] w (AddPost w base L S varNd none) := by
  have HA := hide (add_any h varNd none 0 (fun h => absurd rfl h) (fun _ e => by cases e) (fun _ e => by cases e) hm (by decide))
  go_enter Try.func26, Try.ntmps26
  go_wp2_with fail
  refine (HA.out).mono ?_
  rintro e w1 ⟨rfl, hx⟩
  have HX := hide hx; clear hx
  go_wp2
  go_ret
  exact ⟨rfl, HX.out⟩

set_option maxHeartbeats 1000000 in
theorem con_any {w : World} {base : Nat} {L : Lay} {S : PS} (h : St w base L S) (name : ByteArray) (A : Option Addr) (c : Nat) (xs : List Int) (hx : Ints w A xs) (hl : xs.length ≤ 1000000) (hs : name.size ≤ 1000000) (hk : allIn S.nodes.length xs = true) (hq : kindL name.toList = 1) (hm : S.nodes.length + 1 ≤ 1000000) :
    Calls Try.prog 30 #[.pointer (some ⟨L.g, 0, none⟩), .string name, .slice A xs.length c] w (MadePost w base L S ⟨2, name, xs.map Int.toNat⟩) := by
  have HK := hide (known_any h A c xs hx hl)
  have HQ := hide (fun W => kind_any name W hs)
  have HC := hide (clone_any A c xs w hx hl)
  rw [hk] at HK; rw [hq] at HQ
  have hcast := hide (cast_toNat hk).1
  have hlen : (xs.map Int.toNat).length = xs.length := by simp
  have Hlen := hide hlen
  clear hk hq hlen
  go_enter Try.func30, Try.ntmps30
  go_wp2_with fail
  refine HK.out.mono ?_
  rintro e w1 ⟨rfl, rfl⟩
  go_wp2_with fail
  refine (HQ.out _).mono ?_
  rintro e w1 ⟨rfl, rfl⟩
  go_wp2_with fail
  refine HC.out.mono ?_
  rintro e w1 ⟨A1, c1, rfl, hI, hB, hb⟩
  have HA := hide (add_any (h.later hb) ⟨2, name, xs.map Int.toNat⟩ A1 c1 (by unfold Nats; simp only; rw [hcast.out]; exact hI) (fun x e hf => by have := (h.fp_lt _ hf).2; have := (hB x e).1; omega) (fun x e => (hB x e).2) hm (by simp only; rw [Hlen.out]; exact hl))
  simp only [Hlen.out] at HA
  go_wp2_with fail
  refine HA.out.mono ?_
  intro e w2 hp
  have HP := hide (hp.made hb (fun x e => (hB x e).1))
  obtain ⟨rfl, _⟩ := hp
  go_wp2
  go_ret2
  exact HP.out

set_option maxHeartbeats 1000000 in
theorem con_no {w : World} {base : Nat} {L : Lay} {S : PS} (h : St w base L S) (name : ByteArray) (A : Option Addr) (c : Nat) (xs : List Int) (hx : Ints w A xs) (hl : xs.length ≤ 1000000) (hk : allIn S.nodes.length xs = false) :
    Calls Try.prog 30 #[.pointer (some ⟨L.g, 0, none⟩), .string name, .slice A xs.length c] w fun e w' => e = .returned (.tuple #[.int .i64 0, .int .i64 221]) ∧ w = w' := by
  have HK := hide (known_any h A c xs hx hl)
  rw [hk] at HK
  clear hk
  go_enter Try.func30, Try.ntmps30
  go_wp2_with fail
  refine HK.out.mono ?_
  rintro e w1 ⟨rfl, rfl⟩
  go_wp2
  go_ret2
  exact ⟨rfl, rfl⟩
set_option maxHeartbeats 1000000 in
theorem con_bad {w : World} {base : Nat} {L : Lay} {S : PS} (h : St w base L S) (name : ByteArray) (A : Option Addr) (c : Nat) (xs : List Int) (hx : Ints w A xs) (hl : xs.length ≤ 1000000) (hs : name.size ≤ 1000000) (hk : allIn S.nodes.length xs = true) (hq : kindL name.toList ≠ 1) :
    Calls Try.prog 30 #[.pointer (some ⟨L.g, 0, none⟩), .string name, .slice A xs.length c] w fun e w' => e = .returned (.tuple #[.int .i64 0, .int .i64 120]) ∧ w = w' := by
  have HK := hide (known_any h A c xs hx hl)
  have HQ := hide (fun W => kind_any name W hs)
  rw [hk] at HK
  clear hk
  generalize kindL name.toList = K at *
  have hne : (K != 1) = true := by simpa using hq
  clear hq
  go_enter Try.func30, Try.ntmps30
  go_wp2_with fail
  refine HK.out.mono ?_
  rintro e w1 ⟨rfl, rfl⟩
  go_wp2_with fail
  refine (HQ.out _).mono ?_
  rintro e w1 ⟨rfl, rfl⟩
  go_wp2
  go_ret2
  exact ⟨rfl, rfl⟩

set_option maxHeartbeats 1000000 in
theorem pair_any {w : World} {base : Nat} {L : Lay} {S : PS} (h : St w base L S) (A : Option Addr) (c : Nat) (xs : List Int) (hx : Ints w A xs) (hl : xs.length ≤ 1000000) (hk : allIn S.nodes.length xs = true) (hq : 2 ≤ xs.length) (hm : S.nodes.length + 1 ≤ 1000000) :
    Calls Try.prog 27 #[.pointer (some ⟨L.g, 0, none⟩), .slice A xs.length c] w (MadePost w base L S ⟨3, ByteArray.empty, xs.map Int.toNat⟩) := by
  have HK := hide (known_any h A c xs hx hl)
  have HC := hide (clone_any A c xs w hx hl)
  rw [hk] at HK
  have hcast := hide (cast_toNat hk).1
  have hlen : (xs.map Int.toNat).length = xs.length := by simp
  have Hlen := hide hlen
  have d2 : decide ((xs.length : Int) < 2) = false := by simp; omega
  clear hk hlen
  go_enter Try.func27, Try.ntmps27
  go_wp2_with fail
  refine HK.out.mono ?_
  rintro e w1 ⟨rfl, rfl⟩
  go_wp2_with fail
  refine HC.out.mono ?_
  rintro e w1 ⟨A1, c1, rfl, hI, hB, hb⟩
  have HA := hide (add_any (h.later hb) ⟨3, ByteArray.empty, xs.map Int.toNat⟩ A1 c1 (by unfold Nats; simp only; rw [hcast.out]; exact hI) (fun x e hf => by have := (h.fp_lt _ hf).2; have := (hB x e).1; omega) (fun x e => (hB x e).2) hm (by simp only; rw [Hlen.out]; exact hl))
  simp only [Hlen.out] at HA
  go_wp2_with fail
  refine HA.out.mono ?_
  intro e w2 hp
  have HP := hide (hp.made hb (fun x e => (hB x e).1))
  obtain ⟨rfl, _⟩ := hp
  go_wp2
  go_ret2
  exact HP.out
set_option maxHeartbeats 1000000 in
theorem pair_no {w : World} {base : Nat} {L : Lay} {S : PS} (h : St w base L S) (A : Option Addr) (c : Nat) (xs : List Int) (hx : Ints w A xs) (hl : xs.length ≤ 1000000) (hk : allIn S.nodes.length xs = false) :
    Calls Try.prog 27 #[.pointer (some ⟨L.g, 0, none⟩), .slice A xs.length c] w fun e w' => e = .returned (.tuple #[.int .i64 0, .int .i64 221]) ∧ w = w' := by
  have HK := hide (known_any h A c xs hx hl)
  rw [hk] at HK
  clear hk
  go_enter Try.func27, Try.ntmps27
  go_wp2_with fail
  refine HK.out.mono ?_
  rintro e w1 ⟨rfl, rfl⟩
  go_wp2
  go_ret2
  exact ⟨rfl, rfl⟩
set_option maxHeartbeats 1000000 in
theorem pair_bad {w : World} {base : Nat} {L : Lay} {S : PS} (h : St w base L S) (A : Option Addr) (c : Nat) (xs : List Int) (hx : Ints w A xs) (hl : xs.length ≤ 1000000) (hk : allIn S.nodes.length xs = true) (hq : xs.length < 2) :
    Calls Try.prog 27 #[.pointer (some ⟨L.g, 0, none⟩), .slice A xs.length c] w fun e w' => e = .returned (.tuple #[.int .i64 0, .int .i64 120]) ∧ w = w' := by
  have HK := hide (known_any h A c xs hx hl)
  rw [hk] at HK
  have d2 : decide ((xs.length : Int) < 2) = true := by simp; omega
  clear hk
  go_enter Try.func27, Try.ntmps27
  go_wp2_with fail
  refine HK.out.mono ?_
  rintro e w1 ⟨rfl, rfl⟩
  go_wp2
  go_ret2
  exact ⟨rfl, rfl⟩

/-- Two integers that lie in a new block. -/
theorem ints_two (w : World) (a b : Int) (t : TypeId) : Ints (w.alloc (.cells #[.int .i64 a, .int .i64 b] t)) (some ⟨w.heap.size, 0, none⟩) [a, b] := by
  intro _
  refine ⟨w.heap.size, 0, rfl, by simp, fun k x hk => ?_⟩
  rw [cell_of_row _ _ _ _ _ _ (heap_alloc_new w _)]
  match k with
  | 0 => simp at hk ⊢; exact hk
  | 1 => simp at hk ⊢; exact hk
  | k + 2 => simp at hk
theorem ints_one (w : World) (a : Int) (t : TypeId) : Ints (w.alloc (.cells #[.int .i64 a] t)) (some ⟨w.heap.size, 0, none⟩) [a] := by
  intro _
  refine ⟨w.heap.size, 0, rfl, by simp, fun k x hk => ?_⟩
  rw [cell_of_row _ _ _ _ _ _ (heap_alloc_new w _)]
  match k with
  | 0 => simp at hk ⊢; exact hk
  | k + 1 => simp at hk
set_option maxHeartbeats 1000000 in
theorem arrow_any {w : World} {base : Nat} {L : Lay} {S : PS} (h : St w base L S) (a b : Int) (hk : allIn S.nodes.length [a, b] = true) (hm : S.nodes.length + 1 ≤ 1000000) :
    Calls Try.prog 31 #[.pointer (some ⟨L.g, 0, none⟩), .int .i64 a, .int .i64 b] w (MadePost w base L S ⟨4, ByteArray.empty, [a.toNat, b.toNat]⟩) := by
  have hb1 : Below w.heap.size w (w.alloc (.cells #[.int .i64 a, .int .i64 b] 3)) := (Below.refl _ _).alloc (Nat.le_refl _) _
  have hb2 : Below w.heap.size w ((w.alloc (.cells #[.int .i64 a, .int .i64 b] 3)).alloc (.cells #[.int .i64 a, .int .i64 b] 3)) := hb1.alloc (by simp) _
  have HK := hide (known_any (h.later hb1) (some ⟨w.heap.size, 0, none⟩) 2 [a, b] (ints_two w a b _) (by simp))
  rw [hk] at HK
  have hcast := (cast_toNat hk).1
  have hI := ints_two (w.alloc (.cells #[.int .i64 a, .int .i64 b] 3)) a b 3
  rw [World.size_alloc] at hI
  have hbk : ∀ x : Addr, some (⟨w.heap.size + 1, 0, none⟩ : Addr) = some x → x.block = w.heap.size + 1 := fun x e => by injection e with e; rw [← e]
  have HA := hide (add_any (h.later hb2) ⟨4, ByteArray.empty, [a.toNat, b.toNat]⟩ (some ⟨w.heap.size + 1, 0, none⟩) 2 (by unfold Nats; simp only; rw [show [a.toNat, b.toNat] = [a, b].map Int.toNat from rfl, hcast]; exact hI) (fun x e hf => by have := (h.fp_lt _ hf).2; have := hbk x e; omega) (fun x e => by have := hbk x e; simp; omega) hm (by simp))
  have HB := hide hb2
  clear hk hb1 hb2 hcast hI hbk
  go_enter Try.func31, Try.ntmps31
  go_wp2_with fail
  refine HK.out.mono ?_
  rintro e w1 ⟨rfl, rfl⟩
  go_wp2_with fail
  refine HA.out.mono ?_
  intro e w2 hp
  have HP := hide (hp.made HB.out (fun x e => by injection e with e; rw [← e]; simp))
  obtain ⟨rfl, _⟩ := hp
  go_wp2
  go_ret2
  exact HP.out
set_option maxHeartbeats 1000000 in
theorem arrow_no {w : World} {base : Nat} {L : Lay} {S : PS} (h : St w base L S) (a b : Int) (hk : allIn S.nodes.length [a, b] = false) :
    Calls Try.prog 31 #[.pointer (some ⟨L.g, 0, none⟩), .int .i64 a, .int .i64 b] w fun e w' => e = .returned (.tuple #[.int .i64 0, .int .i64 221]) ∧ Below w.heap.size w w' := by
  have hb1 : Below w.heap.size w (w.alloc (.cells #[.int .i64 a, .int .i64 b] 3)) := (Below.refl _ _).alloc (Nat.le_refl _) _
  have HK := hide (known_any (h.later hb1) (some ⟨w.heap.size, 0, none⟩) 2 [a, b] (ints_two w a b _) (by simp))
  rw [hk] at HK
  clear hk hb1
  go_enter Try.func31, Try.ntmps31
  go_wp2_with fail
  refine HK.out.mono ?_
  rintro e w1 ⟨rfl, rfl⟩
  go_wp2
  go_ret2
  exact ⟨rfl, (Below.refl _ _).alloc (Nat.le_refl _) _⟩
end Go.Proofs.Ytafpbdmggnfdnaa
