/- Part 2 of the proof of UnifyCopies: what follows was kept as these texts: StoreAdd, Token, Token2, Remark, Lex, Toks, PlainMoved. -/
import Derived.Test.YtafpbdmggnfdnaaUnifyCopiesPt1
import Derived.Deep.AppendLies
import Derived.Deep.RegionLaw
import Derived.RegionTactic
import Derived.Maps.AppendAt
import Derived.Deep.Cut
import Derived.Lib.Strings
import Derived.Deep.QuietTactic
import Derived.BigQuiet
import Derived.Deep.Draws
/- The program's store: New, Clone, add. -/
namespace Go.Proofs.Ytafpbdmggnfdnaa
open Go.RowKit
set_option linter.unusedVariables false

theorem ndInfo : (Try.prog.info? 73).map (fun i => (i.zero, i.size, i.bytes)) = some (some (.agg #[.int .i64 0, .string ByteArray.empty, .slice none 0 0]), 3, 48) := by kernel_rfl
theorem intInfo : (Try.prog.info? 3).map (fun i => (i.zero, i.size, i.bytes)) = some (some (.int .i64 0), 1, 8) := by kernel_rfl

def upd {α : Type} (f : Nat → α) (j : Nat) (x : α) : Nat → α := fun k => if k = j then x else f k
theorem upd_same {α : Type} (f : Nat → α) (j : Nat) (x : α) : upd f j x j = x := by simp [upd]
theorem upd_other {α : Type} (f : Nat → α) (j k : Nat) (x : α) (h : k ≠ j) : upd f j x k = f k := by simp [upd, h]
def elT (j : Nat) : TypeId := if j = 0 then 73 else 3
def elS (j : Nat) : Nat := if j = 0 then 3 else 1
/-- Four rows of a store, some of them longer than others. -/
structure Quad (w : World) (base g : Nat) (v : Nat → Value) (n : Nat → Nat) (xs : Nat → List Value) : Prop where
  blk : w.heap[g]? = some (.cells #[v 0, v 1, v 2, v 3] 94 (0, 0))
  low : base ≤ g
  own : ∀ j, j < 4 → w.ownsRow base (elT j) (elS j) (v j) (n j) (xs j)
  apart : ∀ j k, j < 4 → k < 4 → j ≠ k → ∀ b, (v j).ownBlock = some b → (v k).ownBlock ≠ some b
theorem elT_ne (j : Nat) : elT j ≠ 94 := by unfold elT; split <;> decide
section
variable {w w1 w' W : World} {base g : Nat} {v : Nat → Value} {n : Nat → Nat} {xs : Nat → List Value}
theorem Quad.g_ne (h : Quad w base g v n xs) (j : Nat) (hj : j < 4) : (v j).ownBlock ≠ some g := own_blk (h.own j hj) h.blk (elT_ne j)
theorem Quad.glt (h : Quad w base g v n xs) : g < w.heap.size := (Array.getElem?_eq_some_iff.1 h.blk).1
theorem Quad.cell (h : Quad w base g v n xs) (j : Nat) (hj : j < 4) : w.cell? ⟨g, j, none⟩ = some (v j) := by
  rw [cell_of_row _ _ _ _ _ _ h.blk]
  match j, hj with
  | 0, _ => rfl
  | 1, _ => rfl
  | 2, _ => rfl
  | 3, _ => rfl
theorem Quad.free (h : Quad w base g v n xs) (j : Nat) : w.frozen? ⟨g, j, none⟩ = false := by
  simp [World.frozen?, h.blk]
theorem Quad.later (h : Quad w base g v n xs) (hb : Below w.heap.size w w') : Quad w' base g v n xs :=
  ⟨(hb.block g h.glt).trans h.blk, h.low, fun j hj => own_keep (h.own j hj) fun b hb' => hb.block b ((h.own j hj).lt b hb').2, h.apart⟩
theorem Quad.step (h : Quad w base g v n xs) (j : Nat) (hj : j < 4) (hg : w.grownBy w1 (v j).ownBlock) {b m cap : Nat} {ys : List Value}
    (ho : w1.ownsRow base (elT j) (elS j) (.slice (some ⟨b, 0, none⟩) m cap) m ys) (hat : (v j).ownBlock = some b ∨ b = w.heap.size) :
    Quad (w1.setCell ⟨g, j, none⟩ (.slice (some ⟨b, 0, none⟩) m cap)) base g (upd v j (.slice (some ⟨b, 0, none⟩) m cap)) (upd n j m) (upd xs j ys) := by
  have hgb : b ≠ g := by
    rcases hat with e | e
    · intro e'; subst e'; exact h.g_ne j hj e
    · have := h.glt; omega
  have hblk1 : w1.heap[g]? = some (.cells #[v 0, v 1, v 2, v 3] 94 (0, 0)) := (hg.block g h.glt (Ne.symm (h.g_ne j hj))).trans h.blk
  have hset : ∀ k, k ≠ g → (w1.setCell ⟨g, j, none⟩ (.slice (some ⟨b, 0, none⟩) m cap)).heap[k]? = w1.heap[k]? := fun k hk => Below.heap_setCell w1 ⟨g, j, none⟩ _ k hk
  refine ⟨?_, h.low, fun k hk => ?_, fun k l hk hl hne b' hb' => ?_⟩
  · have e : (w1.setCell ⟨g, j, none⟩ (.slice (some ⟨b, 0, none⟩) m cap)).heap[g]? = some (.cells (#[v 0, v 1, v 2, v 3].setIfInBounds j (.slice (some ⟨b, 0, none⟩) m cap)) 94 (0, 0)) := by
      simp [World.setCell, Array.getElem?_modify, hblk1]
    rw [e]
    match j, hj with
    | 0, _ => rfl
    | 1, _ => rfl
    | 2, _ => rfl
    | 3, _ => rfl
  · by_cases e : k = j
    · subst e
      rw [upd_same, upd_same, upd_same]
      refine own_keep ho fun b' hb' => hset b' ?_
      simp [Value.ownBlock] at hb'; omega
    · rw [upd_other _ _ _ _ e, upd_other _ _ _ _ e, upd_other _ _ _ _ e]
      have h1 : w1.ownsRow base (elT k) (elS k) (v k) (n k) (xs k) := own_keep (h.own k hk) fun b' hb' => hg.block b' ((h.own k hk).lt b' hb').2 (fun e' => h.apart k j hk hj e b' hb' e'.symm)
      refine own_keep h1 fun b' hb' => hset b' ?_
      intro e'; subst e'; exact h.g_ne k hk hb'
  · have hnew : ∀ i, i < 4 → ∀ c, (v i).ownBlock = some c → c < w.heap.size := fun i hi c hc => ((h.own i hi).lt c hc).2
    by_cases e1 : k = j
    · subst e1
      rw [upd_same] at hb'
      rw [upd_other _ _ _ _ (Ne.symm hne)]
      have hb'' : b = b' := by simpa [Value.ownBlock] using hb'
      subst hb''
      rcases hat with e | e
      · exact h.apart k l hk hl hne b e
      · intro hc; have := hnew l hl _ hc; omega
    · rw [upd_other _ _ _ _ e1] at hb'
      by_cases e2 : l = j
      · subst e2
        rw [upd_same]
        intro hc
        have hb'' : b = b' := by simpa [Value.ownBlock] using hc
        subst hb''
        rcases hat with e | e
        · exact h.apart k l hk hl hne b hb' e
        · have := hnew k hk _ hb'; omega
      · rw [upd_other _ _ _ _ e2]
        exact h.apart k l hk hl hne b' hb'
theorem Quad.drew (h : Quad w base g v n xs) : Quad w.drew base g v n xs := ⟨h.blk, h.low, fun j hj => (h.own j hj).drew, h.apart⟩
theorem Quad.grown_cell (h : Quad w base g v n xs) (j : Nat) (hj : j < 4) (hg : w.grownBy w1 (v j).ownBlock) (k : Nat) (hk : k < 4) : w1.cell? ⟨g, k, none⟩ = some (v k) ∧ w1.frozen? ⟨g, k, none⟩ = false := by
  have e : w1.heap[g]? = w.heap[g]? := hg.block g h.glt (Ne.symm (h.g_ne j hj))
  exact ⟨(World.cell?_of_block (a := ⟨g, k, none⟩) e).trans (h.cell k hk), (World.frozen?_of_block (a := ⟨g, k, none⟩) e).trans (h.free k)⟩
theorem Quad.only {F : Nat → Prop} (h : Quad W base g v n xs) (ho : Only F w W) (j : Nat) (hj : j < 4) (hg : W.grownBy w1 (v j).ownBlock) (hF : ∀ b, (v j).ownBlock = some b → F b ∨ w.heap.size ≤ b) (hgF : F g ∨ w.heap.size ≤ g) (u : Value) : Only F w (w1.setCell ⟨g, j, none⟩ u) :=
  (ho.grown hg hF).setCell hgF u
end
def vals (L : Lay) : Nat → Value := fun j => if j = 0 then L.vn else if j = 1 then L.va else if j = 2 then L.vr else L.vf
def rows (L : Lay) (S : PS) : Nat → List Value := fun j => if j = 0 then ndCells S.nodes L.ad else if j = 1 then nats S.above else if j = 2 then nats S.ranks else nats S.forms
theorem lt_four {P : Nat → Prop} (h0 : P 0) (h1 : P 1) (h2 : P 2) (h3 : P 3) : ∀ j, j < 4 → P j := by
  intro j hj
  match j, hj with
  | 0, _ => exact h0
  | 1, _ => exact h1
  | 2, _ => exact h2
  | 3, _ => exact h3
theorem St.quad {w : World} {base : Nat} {L : Lay} {S : PS} (h : St w base L S) : Quad w base L.g (vals L) (fun _ => S.nodes.length) (rows L S) := by
  have n1 : ∀ b, L.vn.ownBlock = some b → L.va.ownBlock ≠ some b := own_ne h.nodes h.above (by decide)
  have n2 : ∀ b, L.vn.ownBlock = some b → L.vr.ownBlock ≠ some b := own_ne h.nodes h.ranks (by decide)
  have n3 : ∀ b, L.vn.ownBlock = some b → L.vf.ownBlock ≠ some b := own_ne h.nodes h.forms (by decide)
  refine ⟨h.blk, h.low, lt_four h.nodes h.above h.ranks h.forms, ?_⟩
  have ar := h.ar
  have af := h.af
  have rf := h.rf
  refine fun j k hj => lt_four (P := fun j => k < 4 → j ≠ k → ∀ b, (vals L j).ownBlock = some b → (vals L k).ownBlock ≠ some b) ?_ ?_ ?_ ?_ j hj
  · intro hk; exact lt_four (P := fun k => 0 ≠ k → ∀ b, (vals L 0).ownBlock = some b → (vals L k).ownBlock ≠ some b) (fun hne => absurd rfl hne) (fun _ b hb => n1 b hb) (fun _ b hb => n2 b hb) (fun _ b hb => n3 b hb) k hk
  · intro hk; exact lt_four (P := fun k => 1 ≠ k → ∀ b, (vals L 1).ownBlock = some b → (vals L k).ownBlock ≠ some b) (fun _ b hb hc => n1 b hc hb) (fun hne => absurd rfl hne) (fun _ b hb => ar b hb) (fun _ b hb => af b hb) k hk
  · intro hk; exact lt_four (P := fun k => 2 ≠ k → ∀ b, (vals L 2).ownBlock = some b → (vals L k).ownBlock ≠ some b) (fun _ b hb hc => n2 b hc hb) (fun _ b hb hc => ar b hc hb) (fun hne => absurd rfl hne) (fun _ b hb => rf b hb) k hk
  · intro hk; exact lt_four (P := fun k => 3 ≠ k → ∀ b, (vals L 3).ownBlock = some b → (vals L k).ownBlock ≠ some b) (fun _ b hb hc => n3 b hc hb) (fun _ b hb hc => af b hc hb) (fun _ b hb hc => rf b hc hb) (fun hne => absurd rfl hne) k hk
def PS.add (S : PS) (p : Nd) : PS := ⟨S.nodes ++ [p], S.above ++ [S.nodes.length], S.ranks ++ [0], S.forms ++ [S.nodes.length]⟩
theorem ndCells_snoc (N : List Nd) (ad : List (Option Addr × Nat)) (p : Nd) (a : Option Addr × Nat) (h : ad.length = N.length) : ndCells (N ++ [p]) (ad ++ [a]) = ndCells N ad ++ ndCell p a := by
  unfold ndCells
  rw [List.zip_append h.symm, List.flatMap_append]
  simp
theorem nats_snoc (l : List Nat) (n : Nat) : nats (l ++ [n]) = nats l ++ [.int .i64 (n : Int)] := by simp [nats]
theorem new_any (w : World) (base : Nat) (hb : base ≤ w.heap.size) : Calls Try.prog 25 #[] w fun e w' => e = .returned (.pointer (some ⟨w.heap.size, 0, none⟩)) ∧ St w' base ⟨w.heap.size, .slice none 0 0, .slice none 0 0, .slice none 0 0, .slice none 0 0, []⟩ ⟨[], [], [], []⟩ ∧ Below w.heap.size w w' := by
  go_enter Try.func25, Try.ntmps25
  go_wp2
  go_ret
  refine ⟨rfl, ⟨heap_alloc_new w _, hb, World.ownsRow_nil _ _ _ _, World.ownsRow_nil _ _ _ _, World.ownsRow_nil _ _ _ _, World.ownsRow_nil _ _ _ _, ?_, ?_, ?_, rfl, ?_, by simp, ?_⟩, (Below.refl _ _).alloc (Nat.le_refl _) _⟩
  · intro b hb; cases hb
  · intro b hb; cases hb
  · intro b hb; cases hb
  · intro i p a hi; simp at hi
  · intro i p hi; simp at hi
theorem one_new (W : World) (u : Value) (t : TypeId) : ∀ (j : Nat) (x : Value), [u][j]? = some x → (W.alloc (.cells #[u] t)).cell? ((⟨W.heap.size, 0, none⟩ : Addr).add j) = some x := World.news_of_block (cs := #[u]) (heap_alloc_new W _)

/-- A node more. -/
def AddPost (w : World) (base : Nat) (L : Lay) (S : PS) (p : Nd) (A : Option Addr) (e : Ending) (w' : World) : Prop :=
  e = .returned (.int .i64 (S.nodes.length : Int)) ∧ ∃ L', St w' base L' (S.add p) ∧ L'.g = L.g ∧ Only L.fp w w' ∧ (∀ b, L'.fp b → L.fp b ∨ w.heap.size ≤ b) ∧ ∀ (i : Nat) (a : Option Addr × Nat), L'.ad[i]? = some a → L.ad[i]? = some a ∨ a.1 = A
theorem add_post {w W5 : World} {base : Nat} {L : Lay} {S : PS} (h : St w base L S) (p : Nd) (A : Option Addr) (c : Nat) (hA : Nats w A p.args) (hn : ∀ x, A = some x → ¬ L.fp x.block) (hlt : ∀ x, A = some x → x.block < w.heap.size) (hm : S.nodes.length + 1 ≤ 1000000) (hpa : p.args.length ≤ 1000000)
    {b1 b2 b3 b4 cap1 cap2 cap3 cap4 : Nat} (ho : Only L.fp w W5) (h1 : L.fp b1 ∨ w.heap.size ≤ b1) (h2 : L.fp b2 ∨ w.heap.size ≤ b2) (h3 : L.fp b3 ∨ w.heap.size ≤ b3) (h4 : L.fp b4 ∨ w.heap.size ≤ b4)
    (hq : Quad W5 base L.g (upd (upd (upd (upd (vals L) 0 (.slice (some ⟨b1, 0, none⟩) (S.nodes.length + 1) cap1)) 1 (.slice (some ⟨b2, 0, none⟩) (S.nodes.length + 1) cap2)) 2 (.slice (some ⟨b3, 0, none⟩) (S.nodes.length + 1) cap3)) 3 (.slice (some ⟨b4, 0, none⟩) (S.nodes.length + 1) cap4))
      (upd (upd (upd (upd (fun _ => S.nodes.length) 0 (S.nodes.length + 1)) 1 (S.nodes.length + 1)) 2 (S.nodes.length + 1)) 3 (S.nodes.length + 1))
      (upd (upd (upd (upd (rows L S) 0 (ndCells S.nodes L.ad ++ ndCell p (A, c))) 1 (nats S.above ++ [.int .i64 (S.nodes.length : Int)])) 2 (nats S.ranks ++ [.int .i64 0])) 3 (nats S.forms ++ [.int .i64 (S.nodes.length : Int)]))) :
    AddPost w base L S p A (.returned (.int .i64 (S.nodes.length : Int))) W5 := by
  have hfp : ∀ b, (Lay.mk L.g (.slice (some ⟨b1, 0, none⟩) (S.nodes.length + 1) cap1) (.slice (some ⟨b2, 0, none⟩) (S.nodes.length + 1) cap2) (.slice (some ⟨b3, 0, none⟩) (S.nodes.length + 1) cap3) (.slice (some ⟨b4, 0, none⟩) (S.nodes.length + 1) cap4) (L.ad ++ [(A, c)])).fp b → L.fp b ∨ w.heap.size ≤ b := by
    rintro b (e | e | e | e | e)
    · exact .inl (.inl e)
    · have : b1 = b := by simpa [Value.ownBlock] using e
      rw [← this]; exact h1
    · have : b2 = b := by simpa [Value.ownBlock] using e
      rw [← this]; exact h2
    · have : b3 = b := by simpa [Value.ownBlock] using e
      rw [← this]; exact h3
    · have : b4 = b := by simpa [Value.ownBlock] using e
      rw [← this]; exact h4
  have hlen : (S.add p).nodes.length = S.nodes.length + 1 := by simp [PS.add]
  have q0 : W5.ownsRow base 73 3 _ (S.nodes.length + 1) (ndCells S.nodes L.ad ++ ndCell p (A, c)) := hq.own 0 (by decide)
  have q1 : W5.ownsRow base 3 1 _ (S.nodes.length + 1) (nats S.above ++ [.int .i64 (S.nodes.length : Int)]) := hq.own 1 (by decide)
  have q2 : W5.ownsRow base 3 1 _ (S.nodes.length + 1) (nats S.ranks ++ [.int .i64 0]) := hq.own 2 (by decide)
  have q3 : W5.ownsRow base 3 1 _ (S.nodes.length + 1) (nats S.forms ++ [.int .i64 (S.nodes.length : Int)]) := hq.own 3 (by decide)
  rw [← ndCells_snoc _ _ _ _ h.ad] at q0
  rw [← nats_snoc] at q1 q3
  have q2' : nats S.ranks ++ [.int .i64 0] = nats (S.ranks ++ [0]) := by rw [nats_snoc]; rfl
  rw [q2'] at q2
  refine ⟨rfl, ⟨L.g, _, _, _, _, L.ad ++ [(A, c)]⟩, ⟨hq.blk, h.low, by rw [hlen]; exact q0, by rw [hlen]; exact q1, by rw [hlen]; exact q2, by rw [hlen]; exact q3, hq.apart 1 2 (by decide) (by decide) (by decide), hq.apart 1 3 (by decide) (by decide) (by decide), hq.apart 2 3 (by decide) (by decide) (by decide), by simp [PS.add, h.ad], fun i q a hi ha => ?_, by rw [hlen]; exact hm, fun i q hi => ?_⟩, rfl, ho, hfp, fun i a ha => ?_⟩
  · have key : ∀ (B : Option Addr) (l : List Nat), Nats w B l → (∀ x, B = some x → x.block < w.heap.size ∧ ¬ L.fp x.block) → Nats W5 B l ∧ ∀ x, B = some x → x.block < W5.heap.size ∧ ¬ (Lay.mk L.g (.slice (some ⟨b1, 0, none⟩) (S.nodes.length + 1) cap1) (.slice (some ⟨b2, 0, none⟩) (S.nodes.length + 1) cap2) (.slice (some ⟨b3, 0, none⟩) (S.nodes.length + 1) cap3) (.slice (some ⟨b4, 0, none⟩) (S.nodes.length + 1) cap4) (L.ad ++ [(A, c)])).fp x.block := by
      intro B l hB hx
      refine ⟨Ints.only hB ho fun x e => (hx x e).2, fun x e => ⟨Nat.lt_of_lt_of_le (hx x e).1 ho.size, fun hf => ?_⟩⟩
      rcases hfp _ hf with e' | e'
      · exact (hx x e).2 e'
      · have := (hx x e).1; omega
    simp only [PS.add] at hi ha
    by_cases hil : i < S.nodes.length
    · rw [List.getElem?_append_left hil] at hi
      rw [List.getElem?_append_left (by rw [h.ad]; exact hil)] at ha
      obtain ⟨g1, g2⟩ := h.args i q a hi ha
      exact key a.1 q.args g1 g2
    · have hi2 : i = S.nodes.length := by
        have := (List.getElem?_eq_some_iff.1 hi).1
        simp at this; omega
      subst hi2
      simp at hi
      rw [← h.ad] at ha
      simp at ha
      subst hi; subst ha
      exact key A p.args hA fun x e => ⟨hlt x e, hn x e⟩
  · simp only [PS.add] at hi
    by_cases hil : i < S.nodes.length
    · rw [List.getElem?_append_left hil] at hi
      exact h.few i q hi
    · have hi2 : i = S.nodes.length := by
        have := (List.getElem?_eq_some_iff.1 hi).1
        simp at this; omega
      subst hi2
      simp at hi
      subst hi
      exact hpa
  · simp only at ha
    by_cases hil : i < L.ad.length
    · rw [List.getElem?_append_left hil] at ha; exact .inl ha
    · rw [List.getElem?_append_right (by omega)] at ha
      have hi2 : i = L.ad.length := by
        have := (List.getElem?_eq_some_iff.1 ha).1
        simp at this; omega
      subst hi2
      simp at ha
      subst ha; exact .inr rfl
set_option maxRecDepth 100000 in
set_option maxHeartbeats 4000000 in
theorem add_any {w : World} {base : Nat} {L : Lay} {S : PS} (h : St w base L S) (p : Nd) (A : Option Addr) (c : Nat) (hA : Nats w A p.args) (hn : ∀ x, A = some x → ¬ L.fp x.block) (hlt : ∀ x, A = some x → x.block < w.heap.size) (hm : S.nodes.length + 1 ≤ 1000000) (hpa : p.args.length ≤ 1000000) :
    Calls Try.prog 50 #[.pointer (some ⟨L.g, 0, none⟩), .agg #[.int .i64 p.kind, .string p.name, .slice A p.args.length c]] w (AddPost w base L S p A) := by
  obtain ⟨i0, hi, hz0, hz1, hz2⟩ := info_parts ndInfo
  obtain ⟨i1, ki, kz0, kz1, kz2⟩ := info_parts intInfo
  have Hi := hide hi; have Hz0 := hide hz0; have Hz1 := hide hz1; have Hz2 := hide hz2
  have Ki := hide ki; have Kz0 := hide kz0; have Kz1 := hide kz1; have Kz2 := hide kz2
  clear hi hz0 hz1 hz2 ki kz0 kz1 kz2
  have hq := h.quad
  have hbg : base ≤ w.heap.size := by have := h.low; have := h.glt; omega
  obtain ⟨A0, cap0, hv0, _, _⟩ := own_len h.nodes
  obtain ⟨A1, ca, hv1, _, _⟩ := own_len h.above
  obtain ⟨A2, cr, hv2, _, _⟩ := own_len h.ranks
  obtain ⟨A3, cf, hv3, _, _⟩ := own_len h.forms
  have Hv1 := hide hv1; have Hv2 := hide hv2; have Hv3 := hide hv3; clear hv1 hv2 hv3
  have g0 : w.cell? ⟨L.g, 0, none⟩ = some L.vn := h.gcell.1
  have gf : w.frozen? ⟨L.g, 0, none⟩ = false := hq.free 0
  have hown := h.nodes
  rw [hv0] at g0 hown
  have Hv0 := hide hv0; clear hv0
  have HO := hide ((hown.alloc (.cells #[.int .i64 p.kind, .string p.name, .slice A p.args.length c] 73)).alloc (.cells #[.int .i64 p.kind, .string p.name, .slice A p.args.length c] 73)).drew
  have HQ := hide ((hq.later (((Below.refl _ w).alloc (Nat.le_refl _) (.cells #[.int .i64 p.kind, .string p.name, .slice A p.args.length c] 73)).alloc (by simp) (.cells #[.int .i64 p.kind, .string p.name, .slice A p.args.length c] 73))).drew)
  have Hon0 := hide ((((Only.refl L.fp w).alloc (.cells #[.int .i64 p.kind, .string p.name, .slice A p.args.length c] 73)).alloc (.cells #[.int .i64 p.kind, .string p.name, .slice A p.args.length c] 73)).drew)
  clear hown hq
  have hnews : ∀ j u, (ndCell p (A, c))[j]? = some u → ((w.alloc (.cells #[.int .i64 p.kind, .string p.name, .slice A p.args.length c] 73)).alloc (.cells #[.int .i64 p.kind, .string p.name, .slice A p.args.length c] 73)).drew.cell? ((⟨w.heap.size + 1, 0, none⟩ : Addr).add j) = some u :=
    World.news_of_block (cs := #[.int .i64 p.kind, .string p.name, .slice A p.args.length c]) (by have := heap_alloc_new (w.alloc (.cells #[.int .i64 p.kind, .string p.name, .slice A p.args.length c] 73)) (.cells #[.int .i64 p.kind, .string p.name, .slice A p.args.length c] 73); rw [World.size_alloc] at this; exact this)
  have HN := hide hnews; clear hnews
  have Hone : Hid (∀ u ∈ ndCell p (A, c), u.oneCell' = true) := hide (by simp [ndCell, Value.oneCell'])
  have hgl := h.glt
  go_enter Try.func50, Try.ntmps50
  go_wp2
  go_region_law ((refine step_append_lies _ (by rfl) (.tmp 15) (.tmp 17) 92 (by rfl) base 73 i0 (.agg #[.int .i64 0, .string ByteArray.empty, .slice none 0 0]) 3 48 Try.underlying92 Hi.out Hz0.out Hz1.out Hz2.out rfl (by decide) (.slice A0 S.nodes.length cap0) S.nodes.length (ndCells S.nodes L.ad) (by rfl) HO.out ⟨w.heap.size + 1, 0, none⟩ 1 1 (ndCell p (A, c)) (by rfl) (by rfl) HN.out Hone.out (by decide) (by simp only [maxLen]; omega) (by omega) (by simp; omega) (w.heap.size + 2) (by simp) ?_; intro b1 cap1 w1 hown1 hgrow1 hat1 hlt1; rw [← Hv0.out] at hgrow1 hat1; have hcc := HQ.out.grown_cell 0 (by decide) hgrow1 0 (by decide); have hc1 := hcc.1; have hf1 := hcc.2; have HS1 := hide (HQ.out.step 0 (by decide) hgrow1 hown1 (by rcases hat1 with e | e; exact .inl e; exact .inr (by simp; omega))); have Hon1 := hide (HQ.out.only Hon0.out 0 (by decide) hgrow1 (fun b hb => .inl (.inr (.inl hb))) (.inl (.inl rfl)) (.slice (some ⟨b1, 0, none⟩) (S.nodes.length + 1) cap1)); have Hat1 := hide hat1; clear hgrow1 hown1 hat1 hcc))
  all_goals
    clear HQ HN Hone HO hc1 hf1 g0 gf
    obtain ⟨W2, hW2⟩ : ∃ W2, w1.setCell ⟨L.g, 0, none⟩ (.slice (some ⟨b1, 0, none⟩) (S.nodes.length + 1) cap1) = W2 := ⟨_, rfl⟩
    rw [hW2] at HS1 Hon1 ⊢
    clear hW2 hlt1 w1
    have c1 : W2.cell? ⟨L.g, 1, none⟩ = some L.va := HS1.out.cell 1 (by decide)
    have f1 : W2.frozen? ⟨L.g, 1, none⟩ = false := HS1.out.free 1
    rw [Hv1.out] at c1
    have q1 : W2.ownsRow base 3 1 L.va S.nodes.length (nats S.above) := HS1.out.own 1 (by decide)
    rw [Hv1.out] at q1
    have Q1 := hide (q1.alloc (.cells #[.int .i64 (S.nodes.length : Int)] 3))
    have N1 := hide (one_new W2 (.int .i64 (S.nodes.length : Int)) 3)
    have O1 : Hid (∀ u ∈ [Value.int .i64 (S.nodes.length : Int)], u.oneCell' = true) := hide (by simp [Value.oneCell'])
    have z1 : base ≤ W2.heap.size := Nat.le_trans hbg Hon1.out.size
    have gl1 : L.g < W2.heap.size := HS1.out.glt
    have HL1 := hide (HS1.out.later ((Below.refl _ W2).alloc (Nat.le_refl _) (.cells #[.int .i64 (S.nodes.length : Int)] 3)))
    clear q1
    go_upto_region 4 with (at_builtin; refine wpList_append_lies _ rfl (.tmp 25) (.tmp 27) 30 rfl base 3 i1 (.int .i64 0) 1 8 Try.underlying30 Ki.out Kz0.out Kz1.out Kz2.out rfl (by decide) (.slice A1 S.nodes.length ca) S.nodes.length (nats S.above) rfl Q1.out ⟨W2.heap.size, 0, none⟩ 1 1 [.int .i64 (S.nodes.length : Int)] rfl rfl N1.out O1.out (by decide) (by simp only [maxLen]; omega) (by omega) (by simp; omega) (W2.heap.size + 1) (by simp) ?_; intro b2 cap2 w2 hown hgrow hat hll; rw [← Hv1.out] at hgrow hat; have hcc := HL1.out.grown_cell 1 (by decide) hgrow 1 (by decide); have cc1 := hcc.1; have ff1 := hcc.2; have HS2 := hide (HL1.out.step 1 (by decide) hgrow hown (by rcases hat with e | e; exact .inl e; exact .inr (by simp; omega))); have Hon2 := hide (HL1.out.only (Hon1.out.alloc _) 1 (by decide) hgrow (fun b hb => .inl (.inr (.inr (.inl hb)))) (.inl (.inl rfl)) (.slice (some ⟨b2, 0, none⟩) (S.nodes.length + 1) cap2)); have Hat2 := hide hat; clear hgrow hown hat hcc c1 f1 Q1 N1 O1 HL1)
    obtain ⟨W3, hW⟩ : ∃ W3, w2.setCell ⟨L.g, 1, none⟩ (.slice (some ⟨b2, 0, none⟩) (S.nodes.length + 1) cap2) = W3 := ⟨_, rfl⟩
    rw [hW] at HS2 Hon2 ⊢
    clear hW hll cc1 ff1 w2
    have c2 : W3.cell? ⟨L.g, 2, none⟩ = some L.vr := HS2.out.cell 2 (by decide)
    have f2 : W3.frozen? ⟨L.g, 2, none⟩ = false := HS2.out.free 2
    rw [Hv2.out] at c2
    have q2 : W3.ownsRow base 3 1 L.vr S.nodes.length (nats S.ranks) := HS2.out.own 2 (by decide)
    rw [Hv2.out] at q2
    have Q2 := hide (q2.alloc (.cells #[.int .i64 0] 3))
    have N2 := hide (one_new W3 (.int .i64 0) 3)
    have O2 : Hid (∀ u ∈ [Value.int .i64 0], u.oneCell' = true) := hide (by simp [Value.oneCell'])
    have z2 : base ≤ W3.heap.size := Nat.le_trans hbg Hon2.out.size
    have gl2 : L.g < W3.heap.size := HS2.out.glt
    have HL2 := hide (HS2.out.later ((Below.refl _ W3).alloc (Nat.le_refl _) (.cells #[.int .i64 0] 3)))
    clear q2
    go_upto_region 5 with (at_builtin; refine wpList_append_lies _ rfl (.tmp 35) (.tmp 36) 30 rfl base 3 i1 (.int .i64 0) 1 8 Try.underlying30 Ki.out Kz0.out Kz1.out Kz2.out rfl (by decide) (.slice A2 S.nodes.length cr) S.nodes.length (nats S.ranks) rfl Q2.out ⟨W3.heap.size, 0, none⟩ 1 1 [.int .i64 0] rfl rfl N2.out O2.out (by decide) (by simp only [maxLen]; omega) (by omega) (by simp; omega) (W3.heap.size + 1) (by simp) ?_; intro b3 cap3 w3 hown hgrow hat hll; rw [← Hv2.out] at hgrow hat; have hcc := HL2.out.grown_cell 2 (by decide) hgrow 2 (by decide); have cc2 := hcc.1; have ff2 := hcc.2; have HS3 := hide (HL2.out.step 2 (by decide) hgrow hown (by rcases hat with e | e; exact .inl e; exact .inr (by simp; omega))); have Hon3 := hide (HL2.out.only (Hon2.out.alloc _) 2 (by decide) hgrow (fun b hb => .inl (.inr (.inr (.inr (.inl hb))))) (.inl (.inl rfl)) (.slice (some ⟨b3, 0, none⟩) (S.nodes.length + 1) cap3)); have Hat3 := hide hat; clear hgrow hown hat hcc c2 f2 Q2 N2 O2 HL2)
    obtain ⟨W4, hW⟩ : ∃ W4, w3.setCell ⟨L.g, 2, none⟩ (.slice (some ⟨b3, 0, none⟩) (S.nodes.length + 1) cap3) = W4 := ⟨_, rfl⟩
    rw [hW] at HS3 Hon3 ⊢
    clear hW hll cc2 ff2 w3
    have c3 : W4.cell? ⟨L.g, 3, none⟩ = some L.vf := HS3.out.cell 3 (by decide)
    have f3 : W4.frozen? ⟨L.g, 3, none⟩ = false := HS3.out.free 3
    rw [Hv3.out] at c3
    have q3 : W4.ownsRow base 3 1 L.vf S.nodes.length (nats S.forms) := HS3.out.own 3 (by decide)
    rw [Hv3.out] at q3
    have Q3 := hide (q3.alloc (.cells #[.int .i64 (S.nodes.length : Int)] 3))
    have N3 := hide (one_new W4 (.int .i64 (S.nodes.length : Int)) 3)
    have O3 : Hid (∀ u ∈ [Value.int .i64 (S.nodes.length : Int)], u.oneCell' = true) := hide (by simp [Value.oneCell'])
    have z3 : base ≤ W4.heap.size := Nat.le_trans hbg Hon3.out.size
    have gl3 : L.g < W4.heap.size := HS3.out.glt
    have HL3 := hide (HS3.out.later ((Below.refl _ W4).alloc (Nat.le_refl _) (.cells #[.int .i64 (S.nodes.length : Int)] 3)))
    clear q3
    go_upto_region 6 with (at_builtin; refine wpList_append_lies _ rfl (.tmp 44) (.tmp 46) 30 rfl base 3 i1 (.int .i64 0) 1 8 Try.underlying30 Ki.out Kz0.out Kz1.out Kz2.out rfl (by decide) (.slice A3 S.nodes.length cf) S.nodes.length (nats S.forms) rfl Q3.out ⟨W4.heap.size, 0, none⟩ 1 1 [.int .i64 (S.nodes.length : Int)] rfl rfl N3.out O3.out (by decide) (by simp only [maxLen]; omega) (by omega) (by simp; omega) (W4.heap.size + 1) (by simp) ?_; intro b4 cap4 w4 hown hgrow hat hll; rw [← Hv3.out] at hgrow hat; have hcc := HL3.out.grown_cell 3 (by decide) hgrow 3 (by decide); have cc3 := hcc.1; have ff3 := hcc.2; have HS4 := hide (HL3.out.step 3 (by decide) hgrow hown (by rcases hat with e | e; exact .inl e; exact .inr (by simp; omega))); have Hon4 := hide (HL3.out.only (Hon3.out.alloc _) 3 (by decide) hgrow (fun b hb => .inl (.inr (.inr (.inr (.inr hb))))) (.inl (.inl rfl)) (.slice (some ⟨b4, 0, none⟩) (S.nodes.length + 1) cap4)); have Hat4 := hide hat; clear hgrow hown hat hcc c3 f3 Q3 N3 O3 HL3)
    obtain ⟨W5, hW⟩ : ∃ W5, w4.setCell ⟨L.g, 3, none⟩ (.slice (some ⟨b4, 0, none⟩) (S.nodes.length + 1) cap4) = W5 := ⟨_, rfl⟩
    rw [hW] at HS4 Hon4 ⊢
    clear hW hll cc3 ff3 w4
    go_wp2
    go_ret
    exact add_post h p A c hA hn hlt hm hpa Hon4.out (Hat1.out.elim (fun e => .inl (.inr (.inl e))) (fun e => .inr (by omega))) (Hat2.out.elim (fun e => .inl (.inr (.inr (.inl e)))) (fun e => .inr (by have := Hon1.out.size; omega))) (Hat3.out.elim (fun e => .inl (.inr (.inr (.inr (.inl e))))) (fun e => .inr (by have := Hon2.out.size; omega))) (Hat4.out.elim (fun e => .inl (.inr (.inr (.inr (.inr e))))) (fun e => .inr (by have := Hon3.out.size; omega))) HS4.out
end Go.Proofs.Ytafpbdmggnfdnaa

/- The contracts of the lexer's run, wordKind, sign, token. -/
namespace Go.Proofs.Ytafpbdmggnfdnaa
open Go.RowKit
set_option linter.unusedVariables false

set_option maxHeartbeats 400000 in
theorem wordKind_any (u : ByteArray) (w : World) : Calls Try.prog 71 #[.string u] w fun e w' => e = .returned (.int .i64 (wordKindL u.toList)) ∧ w = w' := by
  go_enter Try.func71, Try.ntmps71
  go_wp2
  all_goals
    go_ret
    exact ⟨ret_int (by simp_all [wordKindL, keyWords]), rfl⟩

theorem extract2 (s : ByteArray) (k : Nat) (h : k + 1 < s.size) : ∃ c d : UInt8, (c.toNat : Int) = byt s k ∧ (d.toNat : Int) = byt s (k + 1) ∧ (s.extract k (k + 2)).toList = [c, d] ∧ s.toList.drop k = c :: d :: s.toList.drop (k + 2) := by
  obtain ⟨c, hc, e1⟩ := drop_byt s k (by omega)
  obtain ⟨d, hd, e2⟩ := drop_byt s (k + 1) h
  refine ⟨c, d, hc, hd, ?_, by rw [e1, e2]⟩
  rw [ByteArray.toList_eq] at *
  rw [Lib.extract_data, e1, e2]
  simp
theorem u8_45 (c : UInt8) : (c == 45) = ((c.toNat : Int) == 45) := by rw [Bool.eq_iff_iff]; simp [← UInt8.toNat_inj]; omega
theorem u8_58 (c : UInt8) : (c == 58) = ((c.toNat : Int) == 58) := by rw [Bool.eq_iff_iff]; simp [← UInt8.toNat_inj]; omega
theorem u8_59 (c : UInt8) : (c == 59) = ((c.toNat : Int) == 59) := by rw [Bool.eq_iff_iff]; simp [← UInt8.toNat_inj]; omega
theorem u8_62 (c : UInt8) : (c == 62) = ((c.toNat : Int) == 62) := by rw [Bool.eq_iff_iff]; simp [← UInt8.toNat_inj]; omega

def signV (x y : Int) : Nat := if sign2B x y then 2 else if sign1B x then 1 else 0
set_option maxHeartbeats 400000 in
theorem sign_any (s : ByteArray) (a : Int) (w : World) (h0 : 0 ≤ a) (h1 : a < s.size) (hs : s.size ≤ 1000000) :
    Calls Try.prog 74 #[.string s, .int .i64 a] w fun e w' => e = .returned (.int .i64 (signL (s.toList.drop a.toNat))) ∧ w = w' := by
  obtain ⟨k, rfl⟩ := Int.eq_ofNat_of_zero_le h0
  rw [Int.toNat_natCast]
  have e1 := byt_eq s k (by omega)
  by_cases hk : k + 1 < s.size
  · obtain ⟨c, d, hc, hd, hx, hdr⟩ := extract2 s k hk
    have c1 := u8_45 c; have c2 := u8_58 c; have c3 := u8_59 c
    have d1 := u8_62 d; have d2 := u8_58 d; have d3 := u8_59 d
    have HR := hide (show signL (s.toList.drop k) = signV (byt s k) (byt s (k + 1)) by rw [hdr, ← hc, ← hd]; rfl)
    rw [hc] at c1 c2 c3
    rw [hd] at d1 d2 d3
    clear hdr hc hd
    generalize byt s k = x at *
    generalize byt s (k + 1) = y at *
    generalize signL (s.toList.drop k) = z at *
    go_enter Try.func74, Try.ntmps74
    go_wp2
    all_goals
      go_ret
      refine ⟨ret_int ?_, rfl⟩
      rw [HR.out]
      first | (simp_all [signV, sign2B, sign1B]; done) | (simp_all [signV, sign2B, sign1B]; split <;> omega)
  · obtain ⟨c, hc, hdr⟩ := drop_byt s k (by omega)
    rw [List.drop_of_length_le (i := k + 1) (by rw [size_toList]; omega)] at hdr
    have HR := hide (show signL (s.toList.drop k) = if sign1B (byt s k) then 1 else 0 by rw [hdr, ← hc]; rfl)
    clear hdr hc
    generalize byt s k = x at *
    generalize signL (s.toList.drop k) = z at *
    go_enter Try.func74, Try.ntmps74
    go_wp2
    all_goals
      go_ret
      refine ⟨ret_int ?_, rfl⟩
      rw [HR.out]
      simp_all [sign1B]

theorem runL_at (t : Bool) (s : ByteArray) (k : Nat) (h : k < s.size) : runL t (s.toList.drop k) = if nameB t (byt s k) then 1 + runL t (s.toList.drop (k + 1)) else 0 := by
  obtain ⟨c, hc, e⟩ := drop_byt s k h
  rw [e, runL_cons, nm, hc]
theorem runL_end (t : Bool) (s : ByteArray) (k : Nat) (h : s.size ≤ k) : runL t (s.toList.drop k) = 0 := by
  rw [List.drop_of_length_le (by rw [size_toList]; exact h)]; rfl
theorem digL_at (s : ByteArray) (k : Nat) (h : k < s.size) : digL (s.toList.drop k) = if digitB (byt s k) then 1 + digL (s.toList.drop (k + 1)) else 0 := by
  obtain ⟨c, hc, e⟩ := drop_byt s k h
  rw [e, digL_cons, dg, hc]
theorem digL_end (s : ByteArray) (k : Nat) (h : s.size ≤ k) : digL (s.toList.drop k) = 0 := by
  rw [List.drop_of_length_le (by rw [size_toList]; exact h)]; rfl

set_option maxHeartbeats 1000000 in
theorem run_any (s : ByteArray) (a : Int) (t : Bool) (w : World) (h0 : 0 ≤ a) (h1 : a ≤ s.size) (hs : s.size ≤ 1000000) :
    Calls Try.prog 70 #[.string s, .int .i64 a, .bool t] w fun e w' => e = .returned (.int .i64 (runL t (s.toList.drop a.toNat))) ∧ w = w' := by
  obtain ⟨k, rfl⟩ := Int.eq_ofNat_of_zero_le h0
  rw [Int.toNat_natCast]
  cases t
  · go_enter Try.func70, Try.ntmps70
    go_wp2
    go_loop [7] (fun x => ∃ j : Nat, k ≤ j ∧ j ≤ s.size ∧ x = .int .i64 j ∧ Hid (k + runL false (s.toList.drop k) = j + runL false (s.toList.drop j))) (fun x => s.size - (intOf x).toNat)
    case atStart => exact ⟨k, Nat.le_refl _, by omega, rfl, rfl⟩
    case round =>
     obtain ⟨j, hkj, hj, rfl, HI⟩ := hrel
     by_cases hlt : j < s.size
     · have e1 := byt_eq s j hlt
       have HS := hide (runL_at false s j hlt)
       generalize byt s j = x at *
       go_wp2_with (first | (go_at_call 69; refine (small_any _ _).mono ?_; rintro e w' ⟨rfl, rfl⟩) | (go_at_call 72; refine (great_any _ _).mono ?_; rintro e w' ⟨rfl, rfl⟩) | (go_at_call 73; refine (digit_any _ _).mono ?_; rintro e w' ⟨rfl, rfl⟩))
       all_goals first
         | (go_round
            case rel => exact ⟨j + 1, by omega, by omega, by go_num, hide (by rw [HI.out, HS.out, if_pos (by simp_all [nameB])]; omega)⟩
            case measure => simp [intOf]; omega)
         | (go_ret
            have h := HI.out
            rw [HS.out, if_neg (by simp_all [nameB])] at h
            exact ⟨ret_int (by omega), rfl⟩)
     · go_wp2
       go_ret
       have h := HI.out
       rw [runL_end false s j (by omega)] at h
       exact ⟨ret_int (by omega), rfl⟩
  · go_enter Try.func70, Try.ntmps70
    go_wp2
    go_loop [7] (fun x => ∃ j : Nat, k ≤ j ∧ j ≤ s.size ∧ x = .int .i64 j ∧ Hid (k + runL true (s.toList.drop k) = j + runL true (s.toList.drop j))) (fun x => s.size - (intOf x).toNat)
    case atStart => exact ⟨k, Nat.le_refl _, by omega, rfl, rfl⟩
    case round =>
     obtain ⟨j, hkj, hj, rfl, HI⟩ := hrel
     by_cases hlt : j < s.size
     · have e1 := byt_eq s j hlt
       have HS := hide (runL_at true s j hlt)
       generalize byt s j = x at *
       go_wp2_with (first | (go_at_call 69; refine (small_any _ _).mono ?_; rintro e w' ⟨rfl, rfl⟩) | (go_at_call 72; refine (great_any _ _).mono ?_; rintro e w' ⟨rfl, rfl⟩) | (go_at_call 73; refine (digit_any _ _).mono ?_; rintro e w' ⟨rfl, rfl⟩))
       all_goals first
         | (go_round
            case rel => exact ⟨j + 1, by omega, by omega, by go_num, hide (by rw [HI.out, HS.out, if_pos (by simp_all [nameB])]; omega)⟩
            case measure => simp [intOf]; omega)
         | (go_ret
            have h := HI.out
            rw [HS.out, if_neg (by simp_all [nameB])] at h
            exact ⟨ret_int (by omega), rfl⟩)
     · go_wp2
       go_ret
       have h := HI.out
       rw [runL_end true s j (by omega)] at h
       exact ⟨ret_int (by omega), rfl⟩
end Go.Proofs.Ytafpbdmggnfdnaa

/- The contract of the lexer's token. -/
namespace Go.Proofs.Ytafpbdmggnfdnaa
open Go.RowKit
set_option linter.unusedVariables false

theorem ret_pair {a b c d : Int} (h : a = c) (h' : b = d) : Ending.returned (.tuple #[.int .i64 a, .int .i64 b]) = .returned (.tuple #[.int .i64 c, .int .i64 d]) := by rw [h, h']
theorem extract_take (s : ByteArray) (k z : Nat) : (s.extract k (k + z)).toList = (s.toList.drop k).take z := by
  rw [ByteArray.toList_eq, ByteArray.toList_eq, Lib.extract_data, Nat.add_sub_cancel_left]

theorem tokenL_word (s : ByteArray) (k : Nat) (h : k < s.size) (h1 : (smallB (byt s k) || byt s k == 95) = true) :
    tokenL (s.toList.drop k) = (wordKindL ((s.toList.drop k).take (runL true (s.toList.drop k))), runL true (s.toList.drop k)) := by
  obtain ⟨c, hc, e⟩ := drop_byt s k h
  rw [e]; rw [← hc] at h1; simp only [tokenL]; rw [if_pos h1]
theorem tokenL_great (s : ByteArray) (k : Nat) (h : k < s.size) (h1 : (smallB (byt s k) || byt s k == 95) = false) (h2 : greatB (byt s k) = true) :
    tokenL (s.toList.drop k) = (2, runL true (s.toList.drop k)) := by
  obtain ⟨c, hc, e⟩ := drop_byt s k h
  rw [e]; rw [← hc] at h1 h2; simp only [tokenL]; rw [if_neg (by simp [h1]), if_pos h2]
theorem tokenL_digit (s : ByteArray) (k : Nat) (h : k < s.size) (h1 : (smallB (byt s k) || byt s k == 95) = false) (h2 : greatB (byt s k) = false) (h3 : digitB (byt s k) = true) :
    tokenL (s.toList.drop k) = (3, 1 + digL (s.toList.drop (k + 1))) := by
  obtain ⟨c, hc, e⟩ := drop_byt s k h
  rw [e]; rw [← hc] at h1 h2 h3; simp only [tokenL]; rw [if_neg (by simp [h1]), if_neg (by simp [h2]), if_pos h3]
theorem tokenL_tick (s : ByteArray) (k : Nat) (h : k < s.size) (h4 : byt s k = 39) :
    tokenL (s.toList.drop k) = if decide (k + 1 < s.size) && smallB (byt s (k + 1)) then (4, 1 + runL false (s.toList.drop (k + 1))) else (0, 0) := by
  obtain ⟨c, hc, e⟩ := drop_byt s k h
  rw [e]; rw [← hc] at h4; simp only [tokenL, h4]
  rw [if_neg (by simp [smallB]), if_neg (by simp [greatB]), if_neg (by simp [digitB]), if_pos (by simp)]
  by_cases h' : k + 1 < s.size
  · obtain ⟨d, hd, e2⟩ := drop_byt s (k + 1) h'
    rw [e2, ← hd]; simp [h']
  · rw [List.drop_of_length_le (i := k + 1) (by rw [size_toList]; omega)]; simp [h']
theorem tokenL_sign (s : ByteArray) (k : Nat) (h : k < s.size) (h1 : (smallB (byt s k) || byt s k == 95) = false) (h2 : greatB (byt s k) = false) (h3 : digitB (byt s k) = false) (h4 : (byt s k == 39) = false) :
    tokenL (s.toList.drop k) = if 0 < signL (s.toList.drop k) then (6, signL (s.toList.drop k)) else (0, 0) := by
  obtain ⟨c, hc, e⟩ := drop_byt s k h
  rw [e]; rw [← hc] at h1 h2 h3 h4; simp only [tokenL]; rw [if_neg (by simp [h1]), if_neg (by simp [h2]), if_neg (by simp [h3]), if_neg (by simp [h4])]

def TokOut (s : ByteArray) (k : Nat) (w : World) (e : Ending) (w' : World) : Prop :=
  e = .returned (.tuple #[.int .i64 (tokenL (s.toList.drop k)).1, .int .i64 (tokenL (s.toList.drop k)).2]) ∧ w = w'

set_option maxHeartbeats 1000000 in
theorem token_word (s : ByteArray) (k : Nat) (w : World) (hk : k < s.size) (hs : s.size ≤ 1000000) (h1 : (smallB (byt s k) || byt s k == 95) = true) :
    Calls Try.prog 65 #[.string s, .int .i64 k] w (TokOut s k w) := by
  have HT := hide (tokenL_word s k hk h1)
  have e1 := byt_eq s k hk
  have hr := runL_le true (s.toList.drop k)
  rw [List.length_drop, size_toList] at hr
  have HX := hide (extract_take s k (runL true (s.toList.drop k)))
  generalize hz : runL true (s.toList.drop k) = z at *
  have HZ := hide hz; clear hz
  generalize byt s k = x at *
  rcases (show smallB x = true ∨ (smallB x = false ∧ (x == 95) = true) by revert h1; cases smallB x <;> simp) with hsm | ⟨hsm, h95⟩
  all_goals
    clear h1
    go_enter Try.func65, Try.ntmps65
    go_wp2_with (first
      | (go_at_call 69; refine (small_any _ _).mono ?_; rintro e w' ⟨rfl, rfl⟩)
      | (go_at_call 70; refine (run_any _ _ _ _ (by omega) (by omega) hs).mono ?_; rintro e w' ⟨rfl, rfl⟩; rw [Int.toNat_natCast, HZ.out])
      | (go_at_call 71; refine (wordKind_any _ _).mono ?_; rintro e w' ⟨rfl, rfl⟩))
    go_ret2
    unfold TokOut
    rw [HT.out]
    exact ⟨ret_pair (by rw [← HX.out]) rfl, rfl⟩

set_option maxHeartbeats 1000000 in
theorem token_great (s : ByteArray) (k : Nat) (w : World) (hk : k < s.size) (hs : s.size ≤ 1000000) (h1 : (smallB (byt s k) || byt s k == 95) = false) (h2 : greatB (byt s k) = true) :
    Calls Try.prog 65 #[.string s, .int .i64 k] w (TokOut s k w) := by
  have HT := hide (tokenL_great s k hk h1 h2)
  have e1 := byt_eq s k hk
  generalize byt s k = x at *
  obtain ⟨hsm, h95⟩ : smallB x = false ∧ (x == 95) = false := by simpa using h1
  clear h1
  go_enter Try.func65, Try.ntmps65
  go_wp2_with (first
    | (go_at_call 69; refine (small_any _ _).mono ?_; rintro e w' ⟨rfl, rfl⟩)
    | (go_at_call 72; refine (great_any _ _).mono ?_; rintro e w' ⟨rfl, rfl⟩)
    | (go_at_call 70; refine (run_any _ _ _ _ (by omega) (by omega) hs).mono ?_; rintro e w' ⟨rfl, rfl⟩; rw [Int.toNat_natCast]))
  go_ret2
  unfold TokOut
  rw [HT.out]
  exact ⟨rfl, rfl⟩

set_option maxHeartbeats 1000000 in
theorem token_digit (s : ByteArray) (k : Nat) (w : World) (hk : k < s.size) (hs : s.size ≤ 1000000) (h1 : (smallB (byt s k) || byt s k == 95) = false) (h2 : greatB (byt s k) = false) (h3 : digitB (byt s k) = true) :
    Calls Try.prog 65 #[.string s, .int .i64 k] w (TokOut s k w) := by
  have HT := hide (tokenL_digit s k hk h1 h2 h3)
  have e1 := byt_eq s k hk
  generalize byt s k = x at *
  obtain ⟨hsm, h95⟩ : smallB x = false ∧ (x == 95) = false := by simpa using h1
  clear h1
  go_enter Try.func65, Try.ntmps65
  go_wp2_with (first
    | (go_at_call 69; refine (small_any _ _).mono ?_; rintro e w' ⟨rfl, rfl⟩)
    | (go_at_call 72; refine (great_any _ _).mono ?_; rintro e w' ⟨rfl, rfl⟩)
    | (go_at_call 73; refine (digit_any _ _).mono ?_; rintro e w' ⟨rfl, rfl⟩))
  go_loop [8] (fun v => ∃ j : Nat, k + 1 ≤ j ∧ j ≤ s.size ∧ v = .int .i64 j ∧ Hid (k + 1 + digL (s.toList.drop (k + 1)) = j + digL (s.toList.drop j))) (fun v => s.size - (intOf v).toNat)
  case atStart => exact ⟨k + 1, Nat.le_refl _, by omega, rfl, rfl⟩
  case round =>
    obtain ⟨j, hkj, hj, rfl, HI⟩ := hrel
    by_cases hlt : j < s.size
    · have e2 := byt_eq s j hlt
      have HS := hide (digL_at s j hlt)
      generalize byt s j = y at *
      by_cases hy : digitB y = true
      · go_wp2_with (go_at_call 73; refine (digit_any _ _).mono ?_; rintro e w' ⟨rfl, rfl⟩)
        go_round
        case rel => exact ⟨j + 1, by omega, by omega, by go_num, hide (by rw [HI.out, HS.out, if_pos hy]; omega)⟩
        case measure => simp [intOf]; omega
      · have hy' : digitB y = false := by simpa using hy
        clear hy
        go_wp2_with (go_at_call 73; refine (digit_any _ _).mono ?_; rintro e w' ⟨rfl, rfl⟩)
        go_ret2
        have h := HI.out
        rw [HS.out, if_neg (by simp [hy'])] at h
        unfold TokOut
        rw [HT.out]
        exact ⟨ret_pair rfl (by simp only; omega), rfl⟩
    · go_wp2
      go_ret2
      have h := HI.out
      rw [digL_end s j (by omega)] at h
      unfold TokOut
      rw [HT.out]
      exact ⟨ret_pair rfl (by simp only; omega), rfl⟩

set_option maxHeartbeats 1000000 in
theorem token_tick (s : ByteArray) (k : Nat) (w : World) (hk : k < s.size) (hs : s.size ≤ 1000000) (h4 : byt s k = 39) :
    Calls Try.prog 65 #[.string s, .int .i64 k] w (TokOut s k w) := by
  have HT := hide (tokenL_tick s k hk h4)
  have e1 := byt_eq s k hk
  rw [h4] at e1
  clear h4
  have g1 : smallB 39 = false := rfl
  have g2 : greatB 39 = false := rfl
  have g3 : digitB 39 = false := rfl
  by_cases hlt : k + 1 < s.size
  · have e2 := byt_eq s (k + 1) hlt
    generalize byt s (k + 1) = y at *
    cases hy : smallB y
    all_goals
      go_enter Try.func65, Try.ntmps65
      go_wp2_with (first
        | (go_at_call 69; refine (small_any _ _).mono ?_; rintro e w' ⟨rfl, rfl⟩)
        | (go_at_call 72; refine (great_any _ _).mono ?_; rintro e w' ⟨rfl, rfl⟩)
        | (go_at_call 73; refine (digit_any _ _).mono ?_; rintro e w' ⟨rfl, rfl⟩)
        | (go_at_call 70; refine (run_any _ _ _ _ (by omega) (by omega) hs).mono ?_; rintro e w' ⟨rfl, rfl⟩; have hr := runL_le false (s.toList.drop ((k : Int) + 1).toNat); rw [List.length_drop, size_toList] at hr; rw [show ((k : Int) + 1).toNat = k + 1 from by omega] at *))
      go_ret2
      unfold TokOut
      rw [HT.out]
      exact ⟨ret_pair (by simp [hy, hlt]) (by simp [hy, hlt]), rfl⟩
  · go_enter Try.func65, Try.ntmps65
    go_wp2_with (first
        | (go_at_call 69; refine (small_any _ _).mono ?_; rintro e w' ⟨rfl, rfl⟩)
        | (go_at_call 72; refine (great_any _ _).mono ?_; rintro e w' ⟨rfl, rfl⟩)
        | (go_at_call 73; refine (digit_any _ _).mono ?_; rintro e w' ⟨rfl, rfl⟩))
    go_ret2
    unfold TokOut
    rw [HT.out]
    exact ⟨ret_pair (by simp [hlt]) (by simp [hlt]), rfl⟩

set_option maxHeartbeats 1000000 in
theorem token_sign (s : ByteArray) (k : Nat) (w : World) (hk : k < s.size) (hs : s.size ≤ 1000000) (h1 : (smallB (byt s k) || byt s k == 95) = false) (h2 : greatB (byt s k) = false) (h3 : digitB (byt s k) = false) (h4 : (byt s k == 39) = false) :
    Calls Try.prog 65 #[.string s, .int .i64 k] w (TokOut s k w) := by
  have HT := hide (tokenL_sign s k hk h1 h2 h3 h4)
  have e1 := byt_eq s k hk
  generalize byt s k = x at *
  obtain ⟨hsm, h95⟩ : smallB x = false ∧ (x == 95) = false := by simpa using h1
  clear h1
  generalize hz : signL (s.toList.drop k) = z at *
  have HZ := hide hz; clear hz
  rcases Nat.eq_zero_or_pos z with hz | hz
  · subst hz
    go_enter Try.func65, Try.ntmps65
    go_wp2_with (first
      | (go_at_call 69; refine (small_any _ _).mono ?_; rintro e w' ⟨rfl, rfl⟩)
      | (go_at_call 72; refine (great_any _ _).mono ?_; rintro e w' ⟨rfl, rfl⟩)
      | (go_at_call 73; refine (digit_any _ _).mono ?_; rintro e w' ⟨rfl, rfl⟩)
      | (go_at_call 74; refine (sign_any _ _ _ (by omega) (by omega) hs).mono ?_; rintro e w' ⟨rfl, rfl⟩; rw [Int.toNat_natCast, HZ.out]))
    go_ret2
    unfold TokOut
    rw [HT.out]
    exact ⟨rfl, rfl⟩
  · go_enter Try.func65, Try.ntmps65
    go_wp2_with (first
      | (go_at_call 69; refine (small_any _ _).mono ?_; rintro e w' ⟨rfl, rfl⟩)
      | (go_at_call 72; refine (great_any _ _).mono ?_; rintro e w' ⟨rfl, rfl⟩)
      | (go_at_call 73; refine (digit_any _ _).mono ?_; rintro e w' ⟨rfl, rfl⟩)
      | (go_at_call 74; refine (sign_any _ _ _ (by omega) (by omega) hs).mono ?_; rintro e w' ⟨rfl, rfl⟩; rw [Int.toNat_natCast, HZ.out]))
    go_ret2
    unfold TokOut
    rw [HT.out, if_pos hz]
    exact ⟨rfl, rfl⟩

theorem token_any (s : ByteArray) (a : Int) (w : World) (h0 : 0 ≤ a) (h1 : a < s.size) (hs : s.size ≤ 1000000) :
    Calls Try.prog 65 #[.string s, .int .i64 a] w fun e w' => e = .returned (.tuple #[.int .i64 (tokenL (s.toList.drop a.toNat)).1, .int .i64 (tokenL (s.toList.drop a.toNat)).2]) ∧ w = w' := by
  obtain ⟨k, rfl⟩ := Int.eq_ofNat_of_zero_le h0
  rw [Int.toNat_natCast]
  have hk : k < s.size := by omega
  cases g1 : (smallB (byt s k) || byt s k == 95)
  · cases g2 : greatB (byt s k)
    · cases g3 : digitB (byt s k)
      · cases g4 : (byt s k == 39)
        · exact token_sign s k w hk hs g1 g2 g3 g4
        · exact token_tick s k w hk hs (by simpa using g4)
      · exact token_digit s k w hk hs g1 g2 g3
    · exact token_great s k w hk hs g1 g2
  · exact token_word s k w hk hs g1
end Go.Proofs.Ytafpbdmggnfdnaa

/- The contracts of the lexer's remark and nothing. -/
namespace Go.Proofs.Ytafpbdmggnfdnaa
open Go.RowKit
set_option linter.unusedVariables false

theorem remL_at (s : ByteArray) (j : Nat) (d : Int) (n : Nat) (h : j < s.size) : remL (s.toList.drop j) d n =
    if opensL (s.toList.drop j) then remL (s.toList.drop (j + 2)) (d + 1) (n + 2)
    else if closesL (s.toList.drop j) then (if d - 1 = 0 then (n + 2, true) else remL (s.toList.drop (j + 2)) (d - 1) (n + 2))
    else remL (s.toList.drop (j + 1)) d (n + 1) := by
  obtain ⟨c, hc, e⟩ := drop_byt s j h
  by_cases h' : j + 1 < s.size
  · obtain ⟨d', hd, e2⟩ := drop_byt s (j + 1) h'
    rw [e, e2, remL]
  · have e2 : s.toList.drop (j + 1) = [] := List.drop_of_length_le (by rw [size_toList]; omega)
    rw [e, e2]; simp [opensL, closesL, remL]
theorem remL_end (s : ByteArray) (j : Nat) (d : Int) (n : Nat) (h : s.size ≤ j) : remL (s.toList.drop j) d n = (n, false) := by
  rw [List.drop_of_length_le (by rw [size_toList]; exact h)]; simp [remL]
theorem opens_lt (s : ByteArray) (j : Nat) (h : opensL (s.toList.drop j) = true) : j + 1 < s.size := by
  rw [opensL_byt] at h; simp at h; exact h.1.1
theorem closes_lt (s : ByteArray) (j : Nat) (h : closesL (s.toList.drop j) = true) : j + 1 < s.size := by
  rw [closesL_byt] at h; simp at h; exact h.1.1

def RemOut (s : ByteArray) (k : Nat) (w : World) (e : Ending) (w' : World) : Prop :=
  e = .returned (.tuple #[.int .i64 ((k + (remL (s.toList.drop k) 0 0).1 : Nat) : Int), .bool (remL (s.toList.drop k) 0 0).2]) ∧ w = w'
theorem ret_ib {a c : Int} {b d : Bool} (h : a = c) (h' : b = d) : Ending.returned (.tuple #[.int .i64 a, .bool b]) = .returned (.tuple #[.int .i64 c, .bool d]) := by rw [h, h']

theorem noL_at (s : ByteArray) (k : Nat) (h : k < s.size) : noL (s.toList.drop k) = if whiteB (byt s k) || opensL (s.toList.drop k) || decide (0 < (tokenL (s.toList.drop k)).2) then 0 else 1 + noL (s.toList.drop (k + 1)) := by
  obtain ⟨c, hc, e⟩ := drop_byt s k h
  rw [e, noL, hc]
theorem noL_end (s : ByteArray) (k : Nat) (h : s.size ≤ k) : noL (s.toList.drop k) = 0 := by
  rw [List.drop_of_length_le (by rw [size_toList]; exact h)]; rfl

end Go.Proofs.Ytafpbdmggnfdnaa

/- The contract of lex.Lex: the tokens of a text, in new memory. -/
namespace Go.Proofs.Ytafpbdmggnfdnaa
open Go.RowKit
set_option linter.unusedVariables false

def cell3 (t : Tk) : List Value := [.int .i64 t.1, .int .i64 t.2.1, .int .i64 t.2.2]
def cellsOf (l : List Tk) : List Value := l.flatMap cell3
theorem cellsOf_snoc (l : List Tk) (t : Tk) : cellsOf (l ++ [t]) = cellsOf l ++ cell3 t := by simp [cellsOf]
theorem cellsOf_length (l : List Tk) : (cellsOf l).length = l.length * 3 := by
  induction l with
  | nil => rfl
  | cons t l ih => simp only [cellsOf, List.flatMap_cons, List.length_append, List.length_cons] at *; rw [ih]; simp [cell3]; omega
theorem cell_three_new (w : World) (a b c : Value) (t : TypeId) : ∀ j u, [a, b, c][j]? = some u → (w.alloc (.cells #[a, b, c] t)).cell? ((⟨w.heap.size, 0, none⟩ : Addr).add j) = some u := by
  intro j u hj
  match j, hj with
  | 0, hj => simp at hj; subst hj; simp [Addr.add]
  | 1, hj => simp at hj; subst hj; simp [Addr.add]
  | 2, hj => simp at hj; subst hj; simp [Addr.add]
  | j + 3, hj => simp at hj
theorem tokInfo : (Try.prog.info? 122).map (fun i => (i.zero, i.size, i.bytes)) = some (some (.agg #[.int .i64 0, .int .i64 0, .int .i64 0]), 3, 24) := by kernel_rfl

theorem lx_at_white (s : ByteArray) (k : Nat) (h : k < s.size) (hw : whiteB (byt s k) = true) : lx (s.toList.drop k) k = lx (s.toList.drop (k + 1)) (k + 1) := by
  obtain ⟨c, hc, e⟩ := drop_byt s k h
  rw [e, lx_white _ _ _ (by rw [hc]; exact hw)]
theorem lx_at_remark (s : ByteArray) (k : Nat) (h : k < s.size) (hw : whiteB (byt s k) = false) (ho : opensL (s.toList.drop k) = true) (he : (remL (s.toList.drop k) 0 0).2 = true) :
    lx (s.toList.drop k) k = lx (s.toList.drop (k + (remL (s.toList.drop k) 0 0).1)) (k + (remL (s.toList.drop k) 0 0).1) := by
  obtain ⟨c, hc, e⟩ := drop_byt s k h
  rw [← List.drop_drop]
  rw [e] at ho he ⊢
  exact lx_remark _ _ _ (by rw [hc]; exact hw) ho he
theorem lx_at_open (s : ByteArray) (k : Nat) (h : k < s.size) (hw : whiteB (byt s k) = false) (ho : opensL (s.toList.drop k) = true) (he : (remL (s.toList.drop k) 0 0).2 = false) :
    lx (s.toList.drop k) k = [(7, (k : Int), ((k + (remL (s.toList.drop k) 0 0).1 : Nat) : Int))] := by
  obtain ⟨c, hc, e⟩ := drop_byt s k h
  rw [e] at ho he ⊢
  rw [lx_open _ _ _ (by rw [hc]; exact hw) ho he]; simp
theorem lx_at_piece (s : ByteArray) (k : Nat) (h : k < s.size) (hw : whiteB (byt s k) = false) (ho : opensL (s.toList.drop k) = false) :
    lx (s.toList.drop k) k = ((pieceL (s.toList.drop k)).1, (k : Int), (k : Int) + (pieceL (s.toList.drop k)).2) :: lx (s.toList.drop (k + (pieceL (s.toList.drop k)).2)) (k + (pieceL (s.toList.drop k)).2) := by
  obtain ⟨c, hc, e⟩ := drop_byt s k h
  rw [← List.drop_drop]
  rw [e] at ho ⊢
  exact lx_piece _ _ _ (by rw [hc]; exact hw) ho
theorem pieceL_at (s : ByteArray) (k : Nat) (h : k < s.size) : pieceL (s.toList.drop k) = if (tokenL (s.toList.drop k)).2 = 0 then (7, 1 + noL (s.toList.drop (k + 1))) else tokenL (s.toList.drop k) := by
  unfold pieceL; rw [List.tail_drop]
theorem pieceL_at_le (s : ByteArray) (k : Nat) (h : k < s.size) : k + (pieceL (s.toList.drop k)).2 ≤ s.size := by
  obtain ⟨c, hc, e⟩ := drop_byt s k h
  have := pieceL_le c (s.toList.drop (k + 1))
  rw [← e, List.length_drop, size_toList] at this
  omega

/-- What a round has made so far. -/
structure LexRel (s : ByteArray) (w : World) (v : Value) (k : Nat) (done : List Tk) (wr : World) : Prop where
  le : k ≤ s.size
  eq : lx s.toList 0 = done ++ lx (s.toList.drop k) k
  len : done.length ≤ k
  own : wr.ownsRow w.heap.size 122 3 v done.length (cellsOf done)
  below : Below w.heap.size w wr

theorem LexRel.push {s : ByteArray} {w wr w1 : World} {v v1 : Value} {k k1 : Nat} {done : List Tk} {o : Obj} (h : LexRel s w v k done wr) (t : Tk)
    (hown : w1.ownsRow w.heap.size 122 3 v1 (done.length + 1) (cellsOf done ++ cell3 t)) (hg : (wr.alloc o).grownBy w1 v.ownBlock) (hk : k < k1) (hk1 : k1 ≤ s.size)
    (e : lx (s.toList.drop k) k = t :: lx (s.toList.drop k1) k1) : LexRel s w v1 k1 (done ++ [t]) w1 :=
  ⟨hk1, by rw [h.eq, e]; simp, by simp; have := h.len; omega, by rw [cellsOf_snoc, List.length_append]; exact hown,
   (h.below.alloc h.below.size o).grown hg (by simp; exact Nat.le_succ_of_le h.below.size) (fun g hg' => (h.own.lt g hg').1)⟩

end Go.Proofs.Ytafpbdmggnfdnaa

/- Slices of tokens in memory: what a slice reads as; SameTokens. -/
namespace Go.Proofs.Ytafpbdmggnfdnaa
open Go.RowKit
set_option linter.unusedVariables false

/-- The slice with this address holds these tokens, below block B. -/
def Toks (w : World) (B : Nat) (A : Option Addr) (xs : List Tk) : Prop :=
  xs ≠ [] → ∃ b off, A = some ⟨b, off, none⟩ ∧ b < B ∧ ∀ j u, (cellsOf xs)[j]? = some u → w.cell? ⟨b, off + j, none⟩ = some u

theorem cellsOf_at (xs : List Tk) (k : Nat) (t : Tk) (h : xs[k]? = some t) : (cellsOf xs)[k * 3]? = some (.int .i64 t.1) ∧ (cellsOf xs)[k * 3 + 1]? = some (.int .i64 t.2.1) ∧ (cellsOf xs)[k * 3 + 2]? = some (.int .i64 t.2.2) := by
  induction xs generalizing k with
  | nil => simp at h
  | cons x xs ih =>
    rcases k with _ | k
    · simp at h; subst h; simp [cellsOf, cell3]
    · simp at h
      obtain ⟨h1, h2, h3⟩ := ih k h
      have e : ∀ j, (cellsOf (x :: xs))[j + 3]? = (cellsOf xs)[j]? := by
        intro j
        simp only [cellsOf, List.flatMap_cons, cell3]
        simp
      refine ⟨?_, ?_, ?_⟩
      · rw [show (k + 1) * 3 = k * 3 + 3 by omega, e]; exact h1
      · rw [show (k + 1) * 3 + 1 = k * 3 + 1 + 3 by omega, e]; exact h2
      · rw [show (k + 1) * 3 + 2 = k * 3 + 2 + 3 by omega, e]; exact h3

section
variable {w w' : World} {B B' : Nat} {A : Option Addr} {xs : List Tk}
theorem Toks.at_ (h : Toks w B A xs) (k : Nat) (hk : k < xs.length) : ∃ b off, A = some ⟨b, off, none⟩ ∧ b < B ∧
    w.cell? ⟨b, off + k * 3, none⟩ = some (.int .i64 xs[k].1) ∧ w.cell? ⟨b, off + k * 3 + 1, none⟩ = some (.int .i64 xs[k].2.1) ∧ w.cell? ⟨b, off + k * 3 + 2, none⟩ = some (.int .i64 xs[k].2.2) := by
  obtain ⟨b, off, e, hb, hc⟩ := h (by intro e; subst e; simp at hk)
  obtain ⟨h1, h2, h3⟩ := cellsOf_at xs k xs[k] (List.getElem?_eq_getElem hk)
  exact ⟨b, off, e, hb, hc _ _ h1, by rw [Nat.add_assoc]; exact hc _ _ h2, by rw [Nat.add_assoc]; exact hc _ _ h3⟩
theorem Toks.keep (h : Toks w B A xs) (hk : ∀ p : Addr, p.block < B → w'.cell? p = w.cell? p) : Toks w' B A xs := by
  intro hn
  obtain ⟨b, off, e, hb, hc⟩ := h hn
  exact ⟨b, off, e, hb, fun j u hu => (hk _ hb).trans (hc j u hu)⟩
theorem Toks.below (h : Toks w B A xs) (hb : Below B w w') : Toks w' B A xs := h.keep fun _ hp => hb.cell hp
theorem Toks.more (h : Toks w B A xs) (hB : B ≤ B') : Toks w B' A xs := by
  intro hn
  obtain ⟨b, off, e, hb, hc⟩ := h hn
  exact ⟨b, off, e, by omega, hc⟩
theorem Toks.of_own {base : Nat} {e : TypeId} {v : Value} (h : w.ownsRow base e 3 v xs.length (cellsOf xs)) : ∃ A c, v = .slice A xs.length c ∧ Toks w w.heap.size A xs := by
  rcases h.2 with ⟨hv, hn⟩ | ⟨g, cap, cur, hv, _, hh, _⟩
  · exact ⟨none, 0, by rw [hn]; exact hv, fun hne => absurd (List.eq_nil_of_length_eq_zero hn) hne⟩
  · refine ⟨_, cap, hv, fun _ => ⟨g, 0, rfl, ?_, fun j u hu => ?_⟩⟩
    · rcases Nat.lt_or_ge g w.heap.size with hlt | hge
      · exact hlt
      · rw [Array.getElem?_eq_none hge] at hh; cases hh
    · have := h.cells (g := g) (by rw [hv]; rfl) j u hu
      rcases Nat.eq_zero_or_pos j with rfl | hj
      · simpa [Addr.add] using this
      · simpa [Addr.add, show ¬ j = 0 by omega] using this
end
theorem Toks.new (w : World) (xs : List Tk) (t : TypeId) : Toks (w.alloc (.cells (cellsOf xs).toArray t)) (w.heap.size + 1) (some ⟨w.heap.size, 0, none⟩) xs := by
  intro _
  refine ⟨_, _, rfl, by omega, fun j u hu => ?_⟩
  rw [cell_of_row _ _ _ _ _ _ (heap_alloc_new w _)]
  simpa using hu
theorem below_drewN {B : Nat} {a w : World} (h : Below B a w) (n : Nat) : Below B a (w.drewN n) := ⟨h.os, h.tape, h.output, h.size, h.block⟩

theorem tokUnder : Try.prog.underlying 122 = some (.struct (Try.prog.fieldsOf 122)) := by kernel_rfl
theorem tokHeld : Try.prog.stoodInHeld 122 = false := by kernel_rfl
theorem tokGuard : Try.prog.eqGuardType Try.prog.depth 122 = false := by kernel_rfl
theorem tokFields : ((Try.prog.fieldsOf 122).toList.map fun f => (f.name == "_", f.type, f.offset)) = [(false, 3, 0), (false, 3, 1), (false, 3, 2)] := by kernel_rfl
theorem intPart (cs : Array Value) (i : Nat) (v : Value) (w : World) (h : cs[i]? = some v) : (part 3 cs i).run Try.prog w = .ok v w := by
  have ha : (isAgg 3).run Try.prog w = .ok false w := by kernel_rfl
  unfold part
  rw [Sem.run_bind, ha]
  simp [h]
theorem eqf3 (d : Nat) (a b c x y z : Int) (w : World) : (Op.eqFields (d + 1) #[.int .i64 a, .int .i64 b, .int .i64 c] #[.int .i64 x, .int .i64 y, .int .i64 z] (Try.prog.fieldsOf 122).toList).run Try.prog w = .ok (a == x && b == y && c == z) w := by
  have h := tokFields
  generalize (Try.prog.fieldsOf 122).toList = fs at *
  rcases fs with _ | ⟨f0, _ | ⟨f1, _ | ⟨f2, _ | _⟩⟩⟩
  · simp at h
  · simp at h
  · simp at h
  · simp at h
    obtain ⟨⟨n0, t0, o0⟩, ⟨n1, t1, o1⟩, n2, t2, o2⟩ := h
    have p0 := fun W => intPart #[Value.int .i64 a, .int .i64 b, .int .i64 c] 0 _ W rfl
    have p1 := fun W => intPart #[Value.int .i64 a, .int .i64 b, .int .i64 c] 1 _ W rfl
    have p2 := fun W => intPart #[Value.int .i64 a, .int .i64 b, .int .i64 c] 2 _ W rfl
    have q0 := fun W => intPart #[Value.int .i64 x, .int .i64 y, .int .i64 z] 0 _ W rfl
    have q1 := fun W => intPart #[Value.int .i64 x, .int .i64 y, .int .i64 z] 1 _ W rfl
    have q2 := fun W => intPart #[Value.int .i64 x, .int .i64 y, .int .i64 z] 2 _ W rfl
    have r1 := fun W u v => run_equalIn_int (P := Try.prog) W d _ .i64 _ u v Try.underlying3
    cases h1 : a == x <;> cases h2 : b == y <;> cases h3 : c == z <;> simp [Op.eqFields, n0, n1, n2, t0, t1, t2, o0, o1, o2, p0, p1, p2, q0, q1, q2, r1, h1, h2, h3, -beq_eq_false_iff_ne, -beq_iff_eq]
  · simp at h
theorem tok_neq (a b c x y z : Int) (w : World) : (binOp .neq 122 (.agg #[.int .i64 a, .int .i64 b, .int .i64 c]) (.agg #[.int .i64 x, .int .i64 y, .int .i64 z])).run Try.prog w = .ok (.bool (!(a == x && b == y && c == z))) w := by
  rw [run_neq_struct, run_equalIn_agg w 9999 _ _ _ tokUnder tokHeld, eqf3 9998]; rfl
theorem tok_eql (a b c x y z : Int) (w : World) : (binOp .eql 122 (.agg #[.int .i64 a, .int .i64 b, .int .i64 c]) (.agg #[.int .i64 x, .int .i64 y, .int .i64 z])).run Try.prog w = .ok (.bool (a == x && b == y && c == z)) w := by
  rw [run_eql_struct, run_equalIn_agg w 9999 _ _ _ tokUnder tokHeld, eqf3 9998]; rfl

end Go.Proofs.Ytafpbdmggnfdnaa

/- Plain: tokens of a text that is moved on, and of a text with a blank and more behind it. No program in sight. -/
namespace Go.Proofs.Ytafpbdmggnfdnaa
set_option linter.unusedVariables false

def mv (q : Nat) (t : Tk) : Tk := (t.1, t.2.1 + q, t.2.2 + q)
theorem lexL_move (n : Nat) : ∀ (l : Bs) (p q : Nat), lexL n l (p + q) = (lexL n l p).map (mv q) := by
  induction n with
  | zero => intro l p q; rfl
  | succ n ih =>
    intro l p q
    rcases l with _ | ⟨c, r⟩
    · rfl
    · unfold lexL
      split
      · rw [show p + q + 1 = (p + 1) + q by omega, ih]
      · split
        · split
          · rw [show p + q + (remL (c :: r) 0 0).1 = (p + (remL (c :: r) 0 0).1) + q by omega, ih]
          · simp [mv]; omega
        · rw [show p + q + (pieceL (c :: r)).2 = (p + (pieceL (c :: r)).2) + q by omega, ih]
          simp [mv]; omega
theorem lx_move (l : Bs) (p q : Nat) : lx l (p + q) = (lx l p).map (mv q) := lexL_move _ l p q

/-- "\n (* let ) *) " -/
def chunk : Bs := [10, 32, 40, 42, 32, 108, 101, 116, 32, 41, 32, 42, 41, 32]
def chunks : Nat → Bs
  | 0 => []
  | n + 1 => chunks n ++ chunk
theorem chunks_length (n : Nat) : (chunks n).length = 14 * n := by
  induction n with
  | zero => rfl
  | succ n ih => rw [chunks, List.length_append, ih]; simp [chunk]; omega
theorem lx_chunk (l : Bs) (p : Nat) : lx (chunk ++ l) p = lx l (p + 14) := by
  show lx (10 :: 32 :: 40 :: 42 :: 32 :: 108 :: 101 :: 116 :: 32 :: 41 :: 32 :: 42 :: 41 :: 32 :: l) p = _
  rw [lx_white _ _ _ (by decide), lx_white _ _ _ (by decide)]
  have hr : remL (40 :: 42 :: 32 :: 108 :: 101 :: 116 :: 32 :: 41 :: 32 :: 42 :: 41 :: 32 :: l) 0 0 = (11, true) := by
    simp [remL, opensL, closesL]
  rw [lx_remark _ _ _ (by decide) (by simp [opensL]) (by rw [hr]), hr]
  show lx (32 :: l) (p + 1 + 1 + 11) = _
  rw [lx_white _ _ _ (by decide)]
theorem lx_chunks (n : Nat) : ∀ (l : Bs) (p : Nat), lx (chunks n ++ l) p = lx l (p + 14 * n) := by
  induction n with
  | zero => intro l p; simp [chunks]
  | succ n ih =>
    intro l p
    rw [chunks, List.append_assoc, ih, lx_chunk]
    congr 1

/-! ### A blank behind a text -/
theorem takeWhile_blank (f : UInt8 → Bool) (hf : f 32 = false) (l r : Bs) : (l ++ 32 :: r).takeWhile f = l.takeWhile f := by
  induction l with
  | nil => simp [List.takeWhile_cons, hf]
  | cons c l ih => simp only [List.cons_append, List.takeWhile_cons, ih]
theorem runL_blank (t : Bool) (l r : Bs) : runL t (l ++ 32 :: r) = runL t l := by
  unfold runL; rw [takeWhile_blank _ (by cases t <;> decide)]
theorem digL_blank (l r : Bs) : digL (l ++ 32 :: r) = digL l := by
  unfold digL; rw [takeWhile_blank _ (by decide)]
theorem signL_blank (c : UInt8) (l r : Bs) : signL (c :: l ++ 32 :: r) = signL (c :: l) := by
  rcases l with _ | ⟨d, l⟩
  · simp [signL, sign2B]
  · rfl
theorem tokenL_blank (c : UInt8) (l r : Bs) : tokenL (c :: l ++ 32 :: r) = tokenL (c :: l) := by
  have h1 := runL_blank true (c :: l) r
  have h2 := signL_blank c l r
  rw [List.cons_append] at h1 h2 ⊢
  simp only [tokenL]
  rw [h1, h2, digL_blank]
  congr 1
  · rw [← List.cons_append, List.take_append_of_le_length (runL_le _ _)]
  · congr 1
    congr 1
    congr 1
    rcases l with _ | ⟨d, l⟩
    · simp [smallB]
    · have := runL_blank false (d :: l) r
      rw [List.cons_append] at this ⊢
      dsimp only
      rw [this]
theorem opensL_blank (c : UInt8) (l r : Bs) : opensL (c :: l ++ 32 :: r) = opensL (c :: l) := by
  rcases l with _ | ⟨d, l⟩
  · simp [opensL]
  · rfl
theorem noL_blank (l r : Bs) : noL (l ++ 32 :: r) = noL l := by
  induction l with
  | nil => simp [noL, whiteB]
  | cons c l ih =>
    have h1 := tokenL_blank c l r
    have h2 := opensL_blank c l r
    rw [List.cons_append] at h1 h2 ⊢
    rw [noL, h1, h2, ih]
    rfl
theorem pieceL_blank (c : UInt8) (l r : Bs) : pieceL (c :: l ++ 32 :: r) = pieceL (c :: l) := by
  unfold pieceL
  rw [tokenL_blank, List.cons_append, List.tail_cons, List.tail_cons, noL_blank]
theorem remL_more (l : Bs) (d : Int) (n : Nat) (x : Bs) (h : (remL l d n).2 = true) : remL (l ++ x) d n = remL l d n := by
  fun_induction remL l d n with
  | case1 => simp at h
  | case2 => simp at h
  | case3 a b r d n ho ih =>
    rw [List.cons_append, List.cons_append, remL, if_pos (by simpa [opensL] using ho)]
    exact ih h
  | case4 a b r d n ho hc hz =>
    rw [List.cons_append, List.cons_append, remL, if_neg (by simpa [opensL] using ho), if_pos (by simpa [closesL] using hc), if_pos hz]
  | case5 a b r d n ho hc hz ih =>
    rw [List.cons_append, List.cons_append, remL, if_neg (by simpa [opensL] using ho), if_pos (by simpa [closesL] using hc), if_neg hz]
    exact ih h
  | case6 a b r d n ho hc ih =>
    rw [List.cons_append, List.cons_append, remL, if_neg (by simpa [opensL] using ho), if_neg (by simpa [closesL] using hc)]
    exact ih h

/-- The last token, if there is one, is something. -/
def Sound (xs : List Tk) : Prop := ∀ t, xs.getLast? = some t → t.1 ≠ 7
theorem Sound.tail {t : Tk} {xs : List Tk} (h : Sound (t :: xs)) : Sound xs := by
  intro u hu
  refine h u ?_
  rw [List.getLast?_cons, hu]; rfl
theorem lx_blank (n : Nat) : ∀ (l r : Bs) (p : Nat), l.length ≤ n → Sound (lx l p) → lx (l ++ 32 :: r) p = lx l p ++ lx (32 :: r) (p + l.length) := by
  induction n with
  | zero =>
    intro l r p hn hs
    have : l = [] := List.eq_nil_of_length_eq_zero (by omega)
    subst this
    simp [lx_nil]
  | succ n ih =>
    intro l r p hn hs
    rcases l with _ | ⟨c, l⟩
    · simp [lx_nil]
    · simp only [List.length_cons] at hn
      have hob := opensL_blank c l r
      have hpb := pieceL_blank c l r
      cases hw : whiteB c.toNat
      · cases ho : opensL (c :: l)
        · rw [ho] at hob
          have hp := pieceL_pos (c :: l)
          have hl := pieceL_le c l
          rw [lx_piece _ _ _ hw ho] at hs ⊢
          rw [List.cons_append] at hob hpb ⊢
          rw [lx_piece _ _ _ hw hob, hpb, ← List.cons_append, List.drop_append_of_le_length hl, ih _ _ _ (by rw [List.length_drop, List.length_cons]; omega) hs.tail, List.cons_append]
          congr 3
          rw [List.length_drop]; omega
        · cases hr : (remL (c :: l) 0 0).2
          · rw [lx_open _ _ _ hw ho hr] at hs
            exact absurd rfl (hs _ rfl)
          · rw [ho] at hob
            have hp := remL_pos (c :: l) ho 0 0
            have hl := (remL_ge (c :: l) 0 0).2
            have hm := remL_more (c :: l) 0 0 (32 :: r) hr
            rw [lx_remark _ _ _ hw ho hr] at hs ⊢
            rw [List.cons_append] at hob hm ⊢
            rw [lx_remark _ _ _ hw hob (by rw [hm]; exact hr), hm, ← List.cons_append, List.drop_append_of_le_length (by omega), ih _ _ _ (by rw [List.length_drop, List.length_cons]; omega) hs]
            congr 2
            rw [List.length_drop]; omega
      · rw [lx_white _ _ _ hw] at hs ⊢
        rw [List.cons_append, lx_white _ _ _ hw, ih _ _ _ (by omega) hs]
        congr 2
        simp; omega
theorem lx_behind (l : Bs) (n : Nat) (h : Sound (lx l 0)) : lx (l ++ 32 :: chunks n) 0 = lx l 0 := by
  rw [lx_blank _ l _ 0 (Nat.le_refl _) h, lx_white _ _ _ (by decide)]
  have := lx_chunks n [] (0 + l.length + 1)
  rw [List.append_nil] at this
  rw [this, lx_nil, List.append_nil]
theorem lx_ahead (l : Bs) (n : Nat) : lx (chunks n ++ l) 0 = (lx l 0).map (mv (14 * n)) := by
  rw [lx_chunks, ← lx_move]
end Go.Proofs.Ytafpbdmggnfdnaa
