/- The program's store: New, Clone, add. -/
import Derived.Test.YtafpbdmggnfdnaaStore
import Derived.Deep.AppendLies
import Derived.Deep.RegionLaw
import Derived.RegionTactic
import Derived.Maps.AppendAt
import Derived.Deep.Cut
namespace Go.Proofs.Ytafpbdmggnfdnaa
open Go.RowKit
set_option linter.unusedVariables false

theorem ndInfo : (Try.prog.info? 73).map (fun i => (i.zero, i.size, i.bytes)) = some (some (.agg #[.int .i64 0, .string ByteArray.empty, .slice none 0 0]), 3, 48) := by kernel_rfl
theorem intInfo : (Try.prog.info? 3).map (fun i => (i.zero, i.size, i.bytes)) = some (some (.int .i64 0), 1, 8) := by kernel_rfl

def upd {α : Type} (f : Nat → α) (j : Nat) (x : α) : Nat → α := fun k => if k = j then x else f k
theorem upd_same {α : Type} (f : Nat → α) (j : Nat) (x : α) : upd f j x j = x := by simp [upd]
theorem upd_other {α : Type} (f : Nat → α) (j k : Nat) (x : α) (h : k ≠ j) : upd f j x k = f k := by simp [upd, h]
def elT (j : Nat) : TypeId := if j = 0 then 73 else 3
def elS (j : Nat) : Nat := if j = 0 then 3 else 1
/-- Four rows of a store, some of them longer than others. -/
structure Quad (w : World) (base g : Nat) (v : Nat → Value) (n : Nat → Nat) (xs : Nat → List Value) : Prop where
  blk : w.heap[g]? = some (.cells #[v 0, v 1, v 2, v 3] 94 (0, 0))
  low : base ≤ g
  own : ∀ j, j < 4 → w.ownsRow base (elT j) (elS j) (v j) (n j) (xs j)
  apart : ∀ j k, j < 4 → k < 4 → j ≠ k → ∀ b, (v j).ownBlock = some b → (v k).ownBlock ≠ some b
theorem elT_ne (j : Nat) : elT j ≠ 94 := by unfold elT; split <;> decide
section
variable {w w1 w' W : World} {base g : Nat} {v : Nat → Value} {n : Nat → Nat} {xs : Nat → List Value}
theorem Quad.g_ne (h : Quad w base g v n xs) (j : Nat) (hj : j < 4) : (v j).ownBlock ≠ some g := own_blk (h.own j hj) h.blk (elT_ne j)
theorem Quad.glt (h : Quad w base g v n xs) : g < w.heap.size := (Array.getElem?_eq_some_iff.1 h.blk).1
theorem Quad.cell (h : Quad w base g v n xs) (j : Nat) (hj : j < 4) : w.cell? ⟨g, j, none⟩ = some (v j) := by
  rw [cell_of_row _ _ _ _ _ _ h.blk]
  match j, hj with
  | 0, _ => rfl
  | 1, _ => rfl
  | 2, _ => rfl
  | 3, _ => rfl
theorem Quad.free (h : Quad w base g v n xs) (j : Nat) : w.frozen? ⟨g, j, none⟩ = false := by
  simp [World.frozen?, h.blk]
theorem Quad.later (h : Quad w base g v n xs) (hb : Below w.heap.size w w') : Quad w' base g v n xs :=
  ⟨(hb.block g h.glt).trans h.blk, h.low, fun j hj => own_keep (h.own j hj) fun b hb' => hb.block b ((h.own j hj).lt b hb').2, h.apart⟩
theorem Quad.step (h : Quad w base g v n xs) (j : Nat) (hj : j < 4) (hg : w.grownBy w1 (v j).ownBlock) {b m cap : Nat} {ys : List Value}
    (ho : w1.ownsRow base (elT j) (elS j) (.slice (some ⟨b, 0, none⟩) m cap) m ys) (hat : (v j).ownBlock = some b ∨ b = w.heap.size) :
    Quad (w1.setCell ⟨g, j, none⟩ (.slice (some ⟨b, 0, none⟩) m cap)) base g (upd v j (.slice (some ⟨b, 0, none⟩) m cap)) (upd n j m) (upd xs j ys) := by
  have hgb : b ≠ g := by
    rcases hat with e | e
    · intro e'; subst e'; exact h.g_ne j hj e
    · have := h.glt; omega
  have hblk1 : w1.heap[g]? = some (.cells #[v 0, v 1, v 2, v 3] 94 (0, 0)) := (hg.block g h.glt (Ne.symm (h.g_ne j hj))).trans h.blk
  have hset : ∀ k, k ≠ g → (w1.setCell ⟨g, j, none⟩ (.slice (some ⟨b, 0, none⟩) m cap)).heap[k]? = w1.heap[k]? := fun k hk => Below.heap_setCell w1 ⟨g, j, none⟩ _ k hk
  refine ⟨?_, h.low, fun k hk => ?_, fun k l hk hl hne b' hb' => ?_⟩
  · have e : (w1.setCell ⟨g, j, none⟩ (.slice (some ⟨b, 0, none⟩) m cap)).heap[g]? = some (.cells (#[v 0, v 1, v 2, v 3].setIfInBounds j (.slice (some ⟨b, 0, none⟩) m cap)) 94 (0, 0)) := by
      simp [World.setCell, Array.getElem?_modify, hblk1]
    rw [e]
    match j, hj with
    | 0, _ => rfl
    | 1, _ => rfl
    | 2, _ => rfl
    | 3, _ => rfl
  · by_cases e : k = j
    · subst e
      rw [upd_same, upd_same, upd_same]
      refine own_keep ho fun b' hb' => hset b' ?_
      simp [Value.ownBlock] at hb'; omega
    · rw [upd_other _ _ _ _ e, upd_other _ _ _ _ e, upd_other _ _ _ _ e]
      have h1 : w1.ownsRow base (elT k) (elS k) (v k) (n k) (xs k) := own_keep (h.own k hk) fun b' hb' => hg.block b' ((h.own k hk).lt b' hb').2 (fun e' => h.apart k j hk hj e b' hb' e'.symm)
      refine own_keep h1 fun b' hb' => hset b' ?_
      intro e'; subst e'; exact h.g_ne k hk hb'
  · have hnew : ∀ i, i < 4 → ∀ c, (v i).ownBlock = some c → c < w.heap.size := fun i hi c hc => ((h.own i hi).lt c hc).2
    by_cases e1 : k = j
    · subst e1
      rw [upd_same] at hb'
      rw [upd_other _ _ _ _ (Ne.symm hne)]
      have hb'' : b = b' := by simpa [Value.ownBlock] using hb'
      subst hb''
      rcases hat with e | e
      · exact h.apart k l hk hl hne b e
      · intro hc; have := hnew l hl _ hc; omega
    · rw [upd_other _ _ _ _ e1] at hb'
      by_cases e2 : l = j
      · subst e2
        rw [upd_same]
        intro hc
        have hb'' : b = b' := by simpa [Value.ownBlock] using hc
        subst hb''
        rcases hat with e | e
        · exact h.apart k l hk hl hne b hb' e
        · have := hnew k hk _ hb'; omega
      · rw [upd_other _ _ _ _ e2]
        exact h.apart k l hk hl hne b' hb'
theorem Quad.drew (h : Quad w base g v n xs) : Quad w.drew base g v n xs := ⟨h.blk, h.low, fun j hj => (h.own j hj).drew, h.apart⟩
theorem Quad.grown_cell (h : Quad w base g v n xs) (j : Nat) (hj : j < 4) (hg : w.grownBy w1 (v j).ownBlock) (k : Nat) (hk : k < 4) : w1.cell? ⟨g, k, none⟩ = some (v k) ∧ w1.frozen? ⟨g, k, none⟩ = false := by
  have e : w1.heap[g]? = w.heap[g]? := hg.block g h.glt (Ne.symm (h.g_ne j hj))
  exact ⟨(World.cell?_of_block (a := ⟨g, k, none⟩) e).trans (h.cell k hk), (World.frozen?_of_block (a := ⟨g, k, none⟩) e).trans (h.free k)⟩
theorem Quad.only {F : Nat → Prop} (h : Quad W base g v n xs) (ho : Only F w W) (j : Nat) (hj : j < 4) (hg : W.grownBy w1 (v j).ownBlock) (hF : ∀ b, (v j).ownBlock = some b → F b ∨ w.heap.size ≤ b) (hgF : F g ∨ w.heap.size ≤ g) (u : Value) : Only F w (w1.setCell ⟨g, j, none⟩ u) :=
  (ho.grown hg hF).setCell hgF u
end
def vals (L : Lay) : Nat → Value := fun j => if j = 0 then L.vn else if j = 1 then L.va else if j = 2 then L.vr else L.vf
def rows (L : Lay) (S : PS) : Nat → List Value := fun j => if j = 0 then ndCells S.nodes L.ad else if j = 1 then nats S.above else if j = 2 then nats S.ranks else nats S.forms
theorem lt_four {P : Nat → Prop} (h0 : P 0) (h1 : P 1) (h2 : P 2) (h3 : P 3) : ∀ j, j < 4 → P j := by
  intro j hj
  match j, hj with
  | 0, _ => exact h0
  | 1, _ => exact h1
  | 2, _ => exact h2
  | 3, _ => exact h3
theorem St.quad {w : World} {base : Nat} {L : Lay} {S : PS} (h : St w base L S) : Quad w base L.g (vals L) (fun _ => S.nodes.length) (rows L S) := by
  have n1 : ∀ b, L.vn.ownBlock = some b → L.va.ownBlock ≠ some b := own_ne h.nodes h.above (by decide)
  have n2 : ∀ b, L.vn.ownBlock = some b → L.vr.ownBlock ≠ some b := own_ne h.nodes h.ranks (by decide)
  have n3 : ∀ b, L.vn.ownBlock = some b → L.vf.ownBlock ≠ some b := own_ne h.nodes h.forms (by decide)
  refine ⟨h.blk, h.low, lt_four h.nodes h.above h.ranks h.forms, ?_⟩
  have ar := h.ar
  have af := h.af
  have rf := h.rf
  refine fun j k hj => lt_four (P := fun j => k < 4 → j ≠ k → ∀ b, (vals L j).ownBlock = some b → (vals L k).ownBlock ≠ some b) ?_ ?_ ?_ ?_ j hj
  · intro hk; exact lt_four (P := fun k => 0 ≠ k → ∀ b, (vals L 0).ownBlock = some b → (vals L k).ownBlock ≠ some b) (fun hne => absurd rfl hne) (fun _ b hb => n1 b hb) (fun _ b hb => n2 b hb) (fun _ b hb => n3 b hb) k hk
  · intro hk; exact lt_four (P := fun k => 1 ≠ k → ∀ b, (vals L 1).ownBlock = some b → (vals L k).ownBlock ≠ some b) (fun _ b hb hc => n1 b hc hb) (fun hne => absurd rfl hne) (fun _ b hb => ar b hb) (fun _ b hb => af b hb) k hk
  · intro hk; exact lt_four (P := fun k => 2 ≠ k → ∀ b, (vals L 2).ownBlock = some b → (vals L k).ownBlock ≠ some b) (fun _ b hb hc => n2 b hc hb) (fun _ b hb hc => ar b hc hb) (fun hne => absurd rfl hne) (fun _ b hb => rf b hb) k hk
  · intro hk; exact lt_four (P := fun k => 3 ≠ k → ∀ b, (vals L 3).ownBlock = some b → (vals L k).ownBlock ≠ some b) (fun _ b hb hc => n3 b hc hb) (fun _ b hb hc => af b hc hb) (fun _ b hb hc => rf b hc hb) (fun hne => absurd rfl hne) k hk
def PS.add (S : PS) (p : Nd) : PS := ⟨S.nodes ++ [p], S.above ++ [S.nodes.length], S.ranks ++ [0], S.forms ++ [S.nodes.length]⟩
theorem ndCells_snoc (N : List Nd) (ad : List (Option Addr × Nat)) (p : Nd) (a : Option Addr × Nat) (h : ad.length = N.length) : ndCells (N ++ [p]) (ad ++ [a]) = ndCells N ad ++ ndCell p a := by
  unfold ndCells
  rw [List.zip_append h.symm, List.flatMap_append]
  simp
theorem nats_snoc (l : List Nat) (n : Nat) : nats (l ++ [n]) = nats l ++ [.int .i64 (n : Int)] := by simp [nats]
theorem new_any (w : World) (base : Nat) (hb : base ≤ w.heap.size) : Calls Try.prog 25 #[] w fun e w' => e = .returned (.pointer (some ⟨w.heap.size, 0, none⟩)) ∧ St w' base ⟨w.heap.size, .slice none 0 0, .slice none 0 0, .slice none 0 0, .slice none 0 0, []⟩ ⟨[], [], [], []⟩ ∧ Below w.heap.size w w' := by
  go_enter Try.func25, Try.ntmps25
  go_wp2
  go_ret
  refine ⟨rfl, ⟨heap_alloc_new w _, hb, World.ownsRow_nil _ _ _ _, World.ownsRow_nil _ _ _ _, World.ownsRow_nil _ _ _ _, World.ownsRow_nil _ _ _ _, ?_, ?_, ?_, rfl, ?_, by simp, ?_⟩, (Below.refl _ _).alloc (Nat.le_refl _) _⟩
  · intro b hb; cases hb
  · intro b hb; cases hb
  · intro b hb; cases hb
  · intro i p a hi; simp at hi
  · intro i p hi; simp at hi
theorem one_new (W : World) (u : Value) (t : TypeId) : ∀ (j : Nat) (x : Value), [u][j]? = some x → (W.alloc (.cells #[u] t)).cell? ((⟨W.heap.size, 0, none⟩ : Addr).add j) = some x := World.news_of_block (cs := #[u]) (heap_alloc_new W _)

/-- A node more. -/
def AddPost (w : World) (base : Nat) (L : Lay) (S : PS) (p : Nd) (A : Option Addr) (e : Ending) (w' : World) : Prop :=
  e = .returned (.int .i64 (S.nodes.length : Int)) ∧ ∃ L', St w' base L' (S.add p) ∧ L'.g = L.g ∧ Only L.fp w w' ∧ (∀ b, L'.fp b → L.fp b ∨ w.heap.size ≤ b) ∧ ∀ (i : Nat) (a : Option Addr × Nat), L'.ad[i]? = some a → L.ad[i]? = some a ∨ a.1 = A
theorem add_post {w W5 : World} {base : Nat} {L : Lay} {S : PS} (h : St w base L S) (p : Nd) (A : Option Addr) (c : Nat) (hA : Nats w A p.args) (hn : ∀ x, A = some x → ¬ L.fp x.block) (hlt : ∀ x, A = some x → x.block < w.heap.size) (hm : S.nodes.length + 1 ≤ 1000000) (hpa : p.args.length ≤ 1000000)
    {b1 b2 b3 b4 cap1 cap2 cap3 cap4 : Nat} (ho : Only L.fp w W5) (h1 : L.fp b1 ∨ w.heap.size ≤ b1) (h2 : L.fp b2 ∨ w.heap.size ≤ b2) (h3 : L.fp b3 ∨ w.heap.size ≤ b3) (h4 : L.fp b4 ∨ w.heap.size ≤ b4)
    (hq : Quad W5 base L.g (upd (upd (upd (upd (vals L) 0 (.slice (some ⟨b1, 0, none⟩) (S.nodes.length + 1) cap1)) 1 (.slice (some ⟨b2, 0, none⟩) (S.nodes.length + 1) cap2)) 2 (.slice (some ⟨b3, 0, none⟩) (S.nodes.length + 1) cap3)) 3 (.slice (some ⟨b4, 0, none⟩) (S.nodes.length + 1) cap4))
      (upd (upd (upd (upd (fun _ => S.nodes.length) 0 (S.nodes.length + 1)) 1 (S.nodes.length + 1)) 2 (S.nodes.length + 1)) 3 (S.nodes.length + 1))
      (upd (upd (upd (upd (rows L S) 0 (ndCells S.nodes L.ad ++ ndCell p (A, c))) 1 (nats S.above ++ [.int .i64 (S.nodes.length : Int)])) 2 (nats S.ranks ++ [.int .i64 0])) 3 (nats S.forms ++ [.int .i64 (S.nodes.length : Int)]))) :
    AddPost w base L S p A (.returned (.int .i64 (S.nodes.length : Int))) W5 := by
  have hfp : ∀ b, (Lay.mk L.g (.slice (some ⟨b1, 0, none⟩) (S.nodes.length + 1) cap1) (.slice (some ⟨b2, 0, none⟩) (S.nodes.length + 1) cap2) (.slice (some ⟨b3, 0, none⟩) (S.nodes.length + 1) cap3) (.slice (some ⟨b4, 0, none⟩) (S.nodes.length + 1) cap4) (L.ad ++ [(A, c)])).fp b → L.fp b ∨ w.heap.size ≤ b := by
    rintro b (e | e | e | e | e)
    · exact .inl (.inl e)
    · have : b1 = b := by simpa [Value.ownBlock] using e
      rw [← this]; exact h1
    · have : b2 = b := by simpa [Value.ownBlock] using e
      rw [← this]; exact h2
    · have : b3 = b := by simpa [Value.ownBlock] using e
      rw [← this]; exact h3
    · have : b4 = b := by simpa [Value.ownBlock] using e
      rw [← this]; exact h4
  have hlen : (S.add p).nodes.length = S.nodes.length + 1 := by simp [PS.add]
  have q0 : W5.ownsRow base 73 3 _ (S.nodes.length + 1) (ndCells S.nodes L.ad ++ ndCell p (A, c)) := hq.own 0 (by decide)
  have q1 : W5.ownsRow base 3 1 _ (S.nodes.length + 1) (nats S.above ++ [.int .i64 (S.nodes.length : Int)]) := hq.own 1 (by decide)
  have q2 : W5.ownsRow base 3 1 _ (S.nodes.length + 1) (nats S.ranks ++ [.int .i64 0]) := hq.own 2 (by decide)
  have q3 : W5.ownsRow base 3 1 _ (S.nodes.length + 1) (nats S.forms ++ [.int .i64 (S.nodes.length : Int)]) := hq.own 3 (by decide)
  rw [← ndCells_snoc _ _ _ _ h.ad] at q0
  rw [← nats_snoc] at q1 q3
  have q2' : nats S.ranks ++ [.int .i64 0] = nats (S.ranks ++ [0]) := by rw [nats_snoc]; rfl
  rw [q2'] at q2
  refine ⟨rfl, ⟨L.g, _, _, _, _, L.ad ++ [(A, c)]⟩, ⟨hq.blk, h.low, by rw [hlen]; exact q0, by rw [hlen]; exact q1, by rw [hlen]; exact q2, by rw [hlen]; exact q3, hq.apart 1 2 (by decide) (by decide) (by decide), hq.apart 1 3 (by decide) (by decide) (by decide), hq.apart 2 3 (by decide) (by decide) (by decide), by simp [PS.add, h.ad], fun i q a hi ha => ?_, by rw [hlen]; exact hm, fun i q hi => ?_⟩, rfl, ho, hfp, fun i a ha => ?_⟩
  · have key : ∀ (B : Option Addr) (l : List Nat), Nats w B l → (∀ x, B = some x → x.block < w.heap.size ∧ ¬ L.fp x.block) → Nats W5 B l ∧ ∀ x, B = some x → x.block < W5.heap.size ∧ ¬ (Lay.mk L.g (.slice (some ⟨b1, 0, none⟩) (S.nodes.length + 1) cap1) (.slice (some ⟨b2, 0, none⟩) (S.nodes.length + 1) cap2) (.slice (some ⟨b3, 0, none⟩) (S.nodes.length + 1) cap3) (.slice (some ⟨b4, 0, none⟩) (S.nodes.length + 1) cap4) (L.ad ++ [(A, c)])).fp x.block := by
      intro B l hB hx
      refine ⟨Ints.only hB ho fun x e => (hx x e).2, fun x e => ⟨Nat.lt_of_lt_of_le (hx x e).1 ho.size, fun hf => ?_⟩⟩
      rcases hfp _ hf with e' | e'
      · exact (hx x e).2 e'
      · have := (hx x e).1; omega
    simp only [PS.add] at hi ha
    by_cases hil : i < S.nodes.length
    · rw [List.getElem?_append_left hil] at hi
      rw [List.getElem?_append_left (by rw [h.ad]; exact hil)] at ha
      obtain ⟨g1, g2⟩ := h.args i q a hi ha
      exact key a.1 q.args g1 g2
    · have hi2 : i = S.nodes.length := by
        have := (List.getElem?_eq_some_iff.1 hi).1
        simp at this; omega
      subst hi2
      simp at hi
      rw [← h.ad] at ha
      simp at ha
      subst hi; subst ha
      exact key A p.args hA fun x e => ⟨hlt x e, hn x e⟩
  · simp only [PS.add] at hi
    by_cases hil : i < S.nodes.length
    · rw [List.getElem?_append_left hil] at hi
      exact h.few i q hi
    · have hi2 : i = S.nodes.length := by
        have := (List.getElem?_eq_some_iff.1 hi).1
        simp at this; omega
      subst hi2
      simp at hi
      subst hi
      exact hpa
  · simp only at ha
    by_cases hil : i < L.ad.length
    · rw [List.getElem?_append_left hil] at ha; exact .inl ha
    · rw [List.getElem?_append_right (by omega)] at ha
      have hi2 : i = L.ad.length := by
        have := (List.getElem?_eq_some_iff.1 ha).1
        simp at this; omega
      subst hi2
      simp at ha
      subst ha; exact .inr rfl
set_option maxRecDepth 100000 in
set_option maxHeartbeats 4000000 in
theorem add_any {w : World} {base : Nat} {L : Lay} {S : PS} (h : St w base L S) (p : Nd) (A : Option Addr) (c : Nat) (hA : Nats w A p.args) (hn : ∀ x, A = some x → ¬ L.fp x.block) (hlt : ∀ x, A = some x → x.block < w.heap.size) (hm : S.nodes.length + 1 ≤ 1000000) (hpa : p.args.length ≤ 1000000) :
    Calls Try.prog 50 #[.pointer (some ⟨L.g, 0, none⟩), .agg #[.int .i64 p.kind, .string p.name, .slice A p.args.length c]] w (AddPost w base L S p A) := by
  obtain ⟨i0, hi, hz0, hz1, hz2⟩ := info_parts ndInfo
  obtain ⟨i1, ki, kz0, kz1, kz2⟩ := info_parts intInfo
  have Hi := hide hi; have Hz0 := hide hz0; have Hz1 := hide hz1; have Hz2 := hide hz2
  have Ki := hide ki; have Kz0 := hide kz0; have Kz1 := hide kz1; have Kz2 := hide kz2
  clear hi hz0 hz1 hz2 ki kz0 kz1 kz2
  have hq := h.quad
  have hbg : base ≤ w.heap.size := by have := h.low; have := h.glt; omega
  obtain ⟨A0, cap0, hv0, _, _⟩ := own_len h.nodes
  obtain ⟨A1, ca, hv1, _, _⟩ := own_len h.above
  obtain ⟨A2, cr, hv2, _, _⟩ := own_len h.ranks
  obtain ⟨A3, cf, hv3, _, _⟩ := own_len h.forms
  have Hv1 := hide hv1; have Hv2 := hide hv2; have Hv3 := hide hv3; clear hv1 hv2 hv3
  have g0 : w.cell? ⟨L.g, 0, none⟩ = some L.vn := h.gcell.1
  have gf : w.frozen? ⟨L.g, 0, none⟩ = false := hq.free 0
  have hown := h.nodes
  rw [hv0] at g0 hown
  have Hv0 := hide hv0; clear hv0
  have HO := hide ((hown.alloc (.cells #[.int .i64 p.kind, .string p.name, .slice A p.args.length c] 73)).alloc (.cells #[.int .i64 p.kind, .string p.name, .slice A p.args.length c] 73)).drew
  have HQ := hide ((hq.later (((Below.refl _ w).alloc (Nat.le_refl _) (.cells #[.int .i64 p.kind, .string p.name, .slice A p.args.length c] 73)).alloc (by simp) (.cells #[.int .i64 p.kind, .string p.name, .slice A p.args.length c] 73))).drew)
  have Hon0 := hide ((((Only.refl L.fp w).alloc (.cells #[.int .i64 p.kind, .string p.name, .slice A p.args.length c] 73)).alloc (.cells #[.int .i64 p.kind, .string p.name, .slice A p.args.length c] 73)).drew)
  clear hown hq
  have hnews : ∀ j u, (ndCell p (A, c))[j]? = some u → ((w.alloc (.cells #[.int .i64 p.kind, .string p.name, .slice A p.args.length c] 73)).alloc (.cells #[.int .i64 p.kind, .string p.name, .slice A p.args.length c] 73)).drew.cell? ((⟨w.heap.size + 1, 0, none⟩ : Addr).add j) = some u :=
    World.news_of_block (cs := #[.int .i64 p.kind, .string p.name, .slice A p.args.length c]) (by have := heap_alloc_new (w.alloc (.cells #[.int .i64 p.kind, .string p.name, .slice A p.args.length c] 73)) (.cells #[.int .i64 p.kind, .string p.name, .slice A p.args.length c] 73); rw [World.size_alloc] at this; exact this)
  have HN := hide hnews; clear hnews
  have Hone : Hid (∀ u ∈ ndCell p (A, c), u.oneCell' = true) := hide (by simp [ndCell, Value.oneCell'])
  have hgl := h.glt
  go_enter Try.func50, Try.ntmps50
  go_wp2
  go_region_law ((refine step_append_lies _ (by rfl) (.tmp 15) (.tmp 17) 92 (by rfl) base 73 i0 (.agg #[.int .i64 0, .string ByteArray.empty, .slice none 0 0]) 3 48 Try.underlying92 Hi.out Hz0.out Hz1.out Hz2.out rfl (by decide) (.slice A0 S.nodes.length cap0) S.nodes.length (ndCells S.nodes L.ad) (by rfl) HO.out ⟨w.heap.size + 1, 0, none⟩ 1 1 (ndCell p (A, c)) (by rfl) (by rfl) HN.out Hone.out (by decide) (by simp only [maxLen]; omega) (by omega) (by simp; omega) (w.heap.size + 2) (by simp) ?_; intro b1 cap1 w1 hown1 hgrow1 hat1 hlt1; rw [← Hv0.out] at hgrow1 hat1; have hcc := HQ.out.grown_cell 0 (by decide) hgrow1 0 (by decide); have hc1 := hcc.1; have hf1 := hcc.2; have HS1 := hide (HQ.out.step 0 (by decide) hgrow1 hown1 (by rcases hat1 with e | e; exact .inl e; exact .inr (by simp; omega))); have Hon1 := hide (HQ.out.only Hon0.out 0 (by decide) hgrow1 (fun b hb => .inl (.inr (.inl hb))) (.inl (.inl rfl)) (.slice (some ⟨b1, 0, none⟩) (S.nodes.length + 1) cap1)); have Hat1 := hide hat1; clear hgrow1 hown1 hat1 hcc))
  all_goals
    clear HQ HN Hone HO hc1 hf1 g0 gf
    obtain ⟨W2, hW2⟩ : ∃ W2, w1.setCell ⟨L.g, 0, none⟩ (.slice (some ⟨b1, 0, none⟩) (S.nodes.length + 1) cap1) = W2 := ⟨_, rfl⟩
    rw [hW2] at HS1 Hon1 ⊢
    clear hW2 hlt1 w1
    have c1 : W2.cell? ⟨L.g, 1, none⟩ = some L.va := HS1.out.cell 1 (by decide)
    have f1 : W2.frozen? ⟨L.g, 1, none⟩ = false := HS1.out.free 1
    rw [Hv1.out] at c1
    have q1 : W2.ownsRow base 3 1 L.va S.nodes.length (nats S.above) := HS1.out.own 1 (by decide)
    rw [Hv1.out] at q1
    have Q1 := hide (q1.alloc (.cells #[.int .i64 (S.nodes.length : Int)] 3))
    have N1 := hide (one_new W2 (.int .i64 (S.nodes.length : Int)) 3)
    have O1 : Hid (∀ u ∈ [Value.int .i64 (S.nodes.length : Int)], u.oneCell' = true) := hide (by simp [Value.oneCell'])
    have z1 : base ≤ W2.heap.size := Nat.le_trans hbg Hon1.out.size
    have gl1 : L.g < W2.heap.size := HS1.out.glt
    have HL1 := hide (HS1.out.later ((Below.refl _ W2).alloc (Nat.le_refl _) (.cells #[.int .i64 (S.nodes.length : Int)] 3)))
    clear q1
    go_upto_region 4 with (at_builtin; refine wpList_append_lies _ rfl (.tmp 25) (.tmp 27) 30 rfl base 3 i1 (.int .i64 0) 1 8 Try.underlying30 Ki.out Kz0.out Kz1.out Kz2.out rfl (by decide) (.slice A1 S.nodes.length ca) S.nodes.length (nats S.above) rfl Q1.out ⟨W2.heap.size, 0, none⟩ 1 1 [.int .i64 (S.nodes.length : Int)] rfl rfl N1.out O1.out (by decide) (by simp only [maxLen]; omega) (by omega) (by simp; omega) (W2.heap.size + 1) (by simp) ?_; intro b2 cap2 w2 hown hgrow hat hll; rw [← Hv1.out] at hgrow hat; have hcc := HL1.out.grown_cell 1 (by decide) hgrow 1 (by decide); have cc1 := hcc.1; have ff1 := hcc.2; have HS2 := hide (HL1.out.step 1 (by decide) hgrow hown (by rcases hat with e | e; exact .inl e; exact .inr (by simp; omega))); have Hon2 := hide (HL1.out.only (Hon1.out.alloc _) 1 (by decide) hgrow (fun b hb => .inl (.inr (.inr (.inl hb)))) (.inl (.inl rfl)) (.slice (some ⟨b2, 0, none⟩) (S.nodes.length + 1) cap2)); have Hat2 := hide hat; clear hgrow hown hat hcc c1 f1 Q1 N1 O1 HL1)
    obtain ⟨W3, hW⟩ : ∃ W3, w2.setCell ⟨L.g, 1, none⟩ (.slice (some ⟨b2, 0, none⟩) (S.nodes.length + 1) cap2) = W3 := ⟨_, rfl⟩
    rw [hW] at HS2 Hon2 ⊢
    clear hW hll cc1 ff1 w2
    have c2 : W3.cell? ⟨L.g, 2, none⟩ = some L.vr := HS2.out.cell 2 (by decide)
    have f2 : W3.frozen? ⟨L.g, 2, none⟩ = false := HS2.out.free 2
    rw [Hv2.out] at c2
    have q2 : W3.ownsRow base 3 1 L.vr S.nodes.length (nats S.ranks) := HS2.out.own 2 (by decide)
    rw [Hv2.out] at q2
    have Q2 := hide (q2.alloc (.cells #[.int .i64 0] 3))
    have N2 := hide (one_new W3 (.int .i64 0) 3)
    have O2 : Hid (∀ u ∈ [Value.int .i64 0], u.oneCell' = true) := hide (by simp [Value.oneCell'])
    have z2 : base ≤ W3.heap.size := Nat.le_trans hbg Hon2.out.size
    have gl2 : L.g < W3.heap.size := HS2.out.glt
    have HL2 := hide (HS2.out.later ((Below.refl _ W3).alloc (Nat.le_refl _) (.cells #[.int .i64 0] 3)))
    clear q2
    go_upto_region 5 with (at_builtin; refine wpList_append_lies _ rfl (.tmp 35) (.tmp 36) 30 rfl base 3 i1 (.int .i64 0) 1 8 Try.underlying30 Ki.out Kz0.out Kz1.out Kz2.out rfl (by decide) (.slice A2 S.nodes.length cr) S.nodes.length (nats S.ranks) rfl Q2.out ⟨W3.heap.size, 0, none⟩ 1 1 [.int .i64 0] rfl rfl N2.out O2.out (by decide) (by simp only [maxLen]; omega) (by omega) (by simp; omega) (W3.heap.size + 1) (by simp) ?_; intro b3 cap3 w3 hown hgrow hat hll; rw [← Hv2.out] at hgrow hat; have hcc := HL2.out.grown_cell 2 (by decide) hgrow 2 (by decide); have cc2 := hcc.1; have ff2 := hcc.2; have HS3 := hide (HL2.out.step 2 (by decide) hgrow hown (by rcases hat with e | e; exact .inl e; exact .inr (by simp; omega))); have Hon3 := hide (HL2.out.only (Hon2.out.alloc _) 2 (by decide) hgrow (fun b hb => .inl (.inr (.inr (.inr (.inl hb))))) (.inl (.inl rfl)) (.slice (some ⟨b3, 0, none⟩) (S.nodes.length + 1) cap3)); have Hat3 := hide hat; clear hgrow hown hat hcc c2 f2 Q2 N2 O2 HL2)
    obtain ⟨W4, hW⟩ : ∃ W4, w3.setCell ⟨L.g, 2, none⟩ (.slice (some ⟨b3, 0, none⟩) (S.nodes.length + 1) cap3) = W4 := ⟨_, rfl⟩
    rw [hW] at HS3 Hon3 ⊢
    clear hW hll cc2 ff2 w3
    have c3 : W4.cell? ⟨L.g, 3, none⟩ = some L.vf := HS3.out.cell 3 (by decide)
    have f3 : W4.frozen? ⟨L.g, 3, none⟩ = false := HS3.out.free 3
    rw [Hv3.out] at c3
    have q3 : W4.ownsRow base 3 1 L.vf S.nodes.length (nats S.forms) := HS3.out.own 3 (by decide)
    rw [Hv3.out] at q3
    have Q3 := hide (q3.alloc (.cells #[.int .i64 (S.nodes.length : Int)] 3))
    have N3 := hide (one_new W4 (.int .i64 (S.nodes.length : Int)) 3)
    have O3 : Hid (∀ u ∈ [Value.int .i64 (S.nodes.length : Int)], u.oneCell' = true) := hide (by simp [Value.oneCell'])
    have z3 : base ≤ W4.heap.size := Nat.le_trans hbg Hon3.out.size
    have gl3 : L.g < W4.heap.size := HS3.out.glt
    have HL3 := hide (HS3.out.later ((Below.refl _ W4).alloc (Nat.le_refl _) (.cells #[.int .i64 (S.nodes.length : Int)] 3)))
    clear q3
    go_upto_region 6 with (at_builtin; refine wpList_append_lies _ rfl (.tmp 44) (.tmp 46) 30 rfl base 3 i1 (.int .i64 0) 1 8 Try.underlying30 Ki.out Kz0.out Kz1.out Kz2.out rfl (by decide) (.slice A3 S.nodes.length cf) S.nodes.length (nats S.forms) rfl Q3.out ⟨W4.heap.size, 0, none⟩ 1 1 [.int .i64 (S.nodes.length : Int)] rfl rfl N3.out O3.out (by decide) (by simp only [maxLen]; omega) (by omega) (by simp; omega) (W4.heap.size + 1) (by simp) ?_; intro b4 cap4 w4 hown hgrow hat hll; rw [← Hv3.out] at hgrow hat; have hcc := HL3.out.grown_cell 3 (by decide) hgrow 3 (by decide); have cc3 := hcc.1; have ff3 := hcc.2; have HS4 := hide (HL3.out.step 3 (by decide) hgrow hown (by rcases hat with e | e; exact .inl e; exact .inr (by simp; omega))); have Hon4 := hide (HL3.out.only (Hon3.out.alloc _) 3 (by decide) hgrow (fun b hb => .inl (.inr (.inr (.inr (.inr hb))))) (.inl (.inl rfl)) (.slice (some ⟨b4, 0, none⟩) (S.nodes.length + 1) cap4)); have Hat4 := hide hat; clear hgrow hown hat hcc c3 f3 Q3 N3 O3 HL3)
    obtain ⟨W5, hW⟩ : ∃ W5, w4.setCell ⟨L.g, 3, none⟩ (.slice (some ⟨b4, 0, none⟩) (S.nodes.length + 1) cap4) = W5 := ⟨_, rfl⟩
    rw [hW] at HS4 Hon4 ⊢
    clear hW hll cc3 ff3 w4
    go_wp2
    go_ret
    exact add_post h p A c hA hn hlt hm hpa Hon4.out (Hat1.out.elim (fun e => .inl (.inr (.inl e))) (fun e => .inr (by omega))) (Hat2.out.elim (fun e => .inl (.inr (.inr (.inl e)))) (fun e => .inr (by have := Hon1.out.size; omega))) (Hat3.out.elim (fun e => .inl (.inr (.inr (.inr (.inl e))))) (fun e => .inr (by have := Hon2.out.size; omega))) (Hat4.out.elim (fun e => .inl (.inr (.inr (.inr (.inr e))))) (fun e => .inr (by have := Hon3.out.size; omega))) HS4.out
end Go.Proofs.Ytafpbdmggnfdnaa
