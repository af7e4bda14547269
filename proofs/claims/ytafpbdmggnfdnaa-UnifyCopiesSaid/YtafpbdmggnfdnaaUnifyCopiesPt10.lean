/- Part 10 of the proof of UnifyCopies: what follows was kept as these texts: PlainRun, RefStore, RunParts, Ref, One. -/
import Derived.Test.YtafpbdmggnfdnaaUnifyCopiesPt1
import Derived.Test.YtafpbdmggnfdnaaUnifyCopiesPt2
import Derived.Test.YtafpbdmggnfdnaaUnifyCopiesPt3
import Derived.Test.YtafpbdmggnfdnaaUnifyCopiesPt4
import Derived.Test.YtafpbdmggnfdnaaUnifyCopiesPt5
import Derived.Test.YtafpbdmggnfdnaaUnifyCopiesPt6
import Derived.Test.YtafpbdmggnfdnaaUnifyCopiesPt7
import Derived.Test.YtafpbdmggnfdnaaUnifyCopiesPt8
import Derived.Test.YtafpbdmggnfdnaaUnifyCopiesPt9
/- Plain: what a script does to a store. -/
namespace Go.Proofs.Ytafpbdmggnfdnaa
set_option linter.unusedVariables false

/-- A call of a script, and where its arguments lie. -/
structure OpV where
  what : Int
  name : ByteArray
  args : List Int
  ad : Option Addr
  cap : Nat
def placed1 (made : List Nat) (x : Int) : Int := if 0 ≤ x ∧ x < (made.length : Int) then (par made x.toNat : Int) else x
def placedL (args : List Int) (made : List Nat) : List Int := args.map (placed1 made)
def fst2 : List Int → Int
  | a :: _ :: _ => a
  | _ => -1
def snd2 : List Int → Int
  | _ :: b :: _ => b
  | _ => -1
inductive MakeOp (o : OpV) (made : List Nat) : Int → ByteArray → List Int → Prop where
  | con (h : o.what = 2) : MakeOp o made 2 o.name (placedL o.args made)
  | pair (h : o.what = 3) : MakeOp o made 3 ByteArray.empty (placedL o.args made)
  | arrow (h : o.what = 4) : MakeOp o made 4 ByteArray.empty [fst2 (placedL o.args made), snd2 (placedL o.args made)]
inductive StepR (o : OpV) (N : List Nd) (made : List Nat) (c : Nat → Nat) : List Nd → List Nat → (Nat → Nat) → Prop where
  | var (h : o.what = 1) : StepR o N made c (N ++ [varNd]) (made ++ [N.length]) (addC N.length c)
  | make {k : Int} {nm : ByteArray} {xs : List Int} (h : MakeOp o made k nm xs) : StepR o N made c (makeN N k nm xs) (if makeErr N.length k nm xs = 0 then made ++ [N.length] else made) (makeC N c k nm xs)
  | uni {err : Int} {c1 : Nat → Nat} (h : o.what = 5) (hu : UniSaid N c (fst2 (placedL o.args made)) (snd2 (placedL o.args made)) err c1) (hc : ∀ i, i < N.length → c1 i < N.length) (ha : Acyc N c1) : StepR o N made c N made c1
  | none (h : o.what < 1 ∨ 5 < o.what) : StepR o N made c N made c
/-- What the calls, the last one first, have made. -/
def RunsR : List OpV → List Nd → List Nat → (Nat → Nat) → Prop
  | [], N, made, c => N = [] ∧ made = [] ∧ c = fun i => i
  | o :: rest, N, made, c => ∃ N0 made0 c0, RunsR rest N0 made0 c0 ∧ StepR o N0 made0 c0 N made c
def SameC (N : List Nd) (c c' : Nat → Nat) : Prop := Resp N.length c c' ∧ Resp N.length c' c
theorem SameC.refl (N : List Nd) (c : Nat → Nat) : SameC N c c := ⟨fun _ _ _ _ e => e, fun _ _ _ _ e => e⟩
theorem SameC.symm {N : List Nd} {c c' : Nat → Nat} (h : SameC N c c') : SameC N c' c := ⟨h.2, h.1⟩
theorem SameC.trans {N : List Nd} {c c' c2 : Nat → Nat} (h : SameC N c c') (k : SameC N c' c2) : SameC N c c2 := ⟨fun i j hi hj e => k.1 i j hi hj (h.1 i j hi hj e), fun i j hi hj e => h.2 i j hi hj (k.2 i j hi hj e)⟩
theorem SameC.add {N : List Nd} {c c' : Nat → Nat} (h : SameC N c c') (hc : ∀ i, i < N.length → c i < N.length) (hc' : ∀ i, i < N.length → c' i < N.length) (p : Nd) : SameC (N ++ [p]) (addC N.length c) (addC N.length c') := by
  have key : ∀ (c c' : Nat → Nat), Resp N.length c c' → (∀ i, i < N.length → c i < N.length) → Resp (N ++ [p]).length (addC N.length c) (addC N.length c') := by
    intro c c' h hc i j hi hj e
    simp only [List.length_append, List.length_singleton] at hi hj
    by_cases ei : i = N.length <;> by_cases ej : j = N.length
    · rw [ei, ej]
    · subst ei; rw [addC_new, addC_old (by omega)] at e; have := hc j (by omega); omega
    · subst ej; rw [addC_new, addC_old (by omega)] at e; have := hc i (by omega); omega
    · rw [addC_old (by omega), addC_old (by omega)] at e ⊢; exact h i j (by omega) (by omega) e
  exact ⟨key c c' h.1 hc, key c' c h.2 hc'⟩
/-- Two stores with the same classes answer Unify alike, in either order. -/
theorem uni_same {N : List Nd} {c c1 c' c1' : Nat → Nat} {a b a1 b1 err err1 : Int} (hs : SameC N c c1) (hab : (a1 = a ∧ b1 = b) ∨ (a1 = b ∧ b1 = a)) (h : UniSaid N c a b err c') (h1 : UniSaid N c1 a1 b1 err1 c1') (ha : Acyc N c') (ha1 : Acyc N c1') : err = err1 ∧ SameC N c' c1' := by
  have hall : allIn N.length [a1, b1] = allIn N.length [a, b] := by
    rcases hab with ⟨rfl, rfl⟩ | ⟨rfl, rfl⟩
    · rfl
    · simp [allIn, Bool.and_comm]
  have gsym : ∀ {c0 : Nat → Nat} {x y : Nat} {e : Nat → Nat}, Good N c0 x y e → Good N c0 y x e := fun g => ⟨g.resp, g.ab.symm, g.closed⟩
  have lsym : ∀ {c0 : Nat → Nat} {x y : Nat} {e : Nat → Nat}, Least N c0 x y e → Least N c0 y x e := fun l => ⟨gsym l.good, fun e he => l.least e (gsym he)⟩
  have gto : ∀ {e : Nat → Nat}, Good N c1 a1.toNat b1.toNat e → Good N c a.toNat b.toNat e := by
    intro e g
    have g2 : Good N c1 a.toNat b.toNat e := by
      rcases hab with ⟨rfl, rfl⟩ | ⟨rfl, rfl⟩
      · exact g
      · exact gsym g
    exact g2.of_resp hs.1
  have gfrom : ∀ {e : Nat → Nat}, Good N c a.toNat b.toNat e → Good N c1 a1.toNat b1.toNat e := by
    intro e g
    have g2 : Good N c1 a.toNat b.toNat e := g.of_resp hs.2
    rcases hab with ⟨rfl, rfl⟩ | ⟨rfl, rfl⟩
    · exact g2
    · exact gsym g2
  have lto : ∀ {e : Nat → Nat}, Least N c1 a1.toNat b1.toNat e → Least N c a.toNat b.toNat e := fun l => ⟨gto l.good, fun e he => l.least e (gfrom he)⟩
  have lsame : ∀ {e e1 : Nat → Nat}, Least N c a.toNat b.toNat e → Least N c1 a1.toNat b1.toNat e1 → SameC N e e1 := by
    intro e e1 l l1
    have := Least.same l (lto l1) (fun _ _ _ _ h => h) (fun _ _ _ _ h => h)
    exact this
  rcases h with ⟨h0, h2, h3⟩ | ⟨h0, h2⟩
  · rcases h1 with ⟨k0, k2, k3⟩ | ⟨k0, k2⟩
    · exact ⟨by rw [h2, k2], by rw [h3, k3]; exact hs⟩
    · rw [hall, h0] at k0; cases k0
  · rcases h1 with ⟨k0, k2, k3⟩ | ⟨k0, k2⟩
    · rw [hall, h0] at k0; cases k0
    · rcases h2 with ⟨rfl, hl⟩ | ⟨rfl, rfl, hn⟩ | ⟨rfl, rfl, cl, hl, hn⟩
      · rcases k2 with ⟨rfl, kl⟩ | ⟨rfl, rfl, kn⟩ | ⟨rfl, rfl, ck, kl, kn⟩
        · exact ⟨rfl, lsame hl kl⟩
        · exact absurd (gfrom hl.good) (kn _)
        · exact absurd (ha.of (lsame hl kl).2) kn
      · rcases k2 with ⟨rfl, kl⟩ | ⟨rfl, rfl, kn⟩ | ⟨rfl, rfl, ck, kl, kn⟩
        · exact absurd (gto kl.good) (hn _)
        · exact ⟨rfl, hs⟩
        · exact absurd (gto kl.good) (hn _)
      · rcases k2 with ⟨rfl, kl⟩ | ⟨rfl, rfl, kn⟩ | ⟨rfl, rfl, ck, kl, kn⟩
        · exact absurd (ha1.of (lsame hl kl).1) hn
        · exact absurd (gfrom hl.good) (kn _)
        · exact ⟨rfl, hs⟩
theorem makeN_len (N : List Nd) (k : Int) (nm : ByteArray) (xs : List Int) : (makeN N k nm xs).length = if makeErr N.length k nm xs = 0 then N.length + 1 else N.length := by
  unfold makeN; split <;> simp
theorem RunsR.facts : ∀ {ops : List OpV} {N : List Nd} {made : List Nat} {c : Nat → Nat}, RunsR ops N made c → (∀ x ∈ made, x < N.length) ∧ (∀ i, i < N.length → c i < N.length) ∧ N.length ≤ ops.length ∧ made.length ≤ ops.length
  | [], N, made, c, h => by
    obtain ⟨rfl, rfl, rfl⟩ := h
    simp
  | o :: rest, N, made, c, ⟨N0, made0, c0, h, hs⟩ => by
    obtain ⟨h1, h2, h3, h4⟩ := RunsR.facts h
    have hadd : ∀ i, i < N0.length + 1 → addC N0.length c0 i < N0.length + 1 := by
      intro i hi
      by_cases e : i = N0.length
      · rw [e, addC_new]; omega
      · rw [addC_old (by omega)]; have := h2 i (by omega); omega
    have hmade : ∀ x ∈ made0 ++ [N0.length], x < N0.length + 1 := by
      intro x hx
      rcases List.mem_append.1 hx with hx | hx
      · have := h1 x hx; omega
      · simp at hx; omega
    cases hs with
    | var _ =>
      refine ⟨by simpa using hmade, by simpa using hadd, ?_, ?_⟩ <;> (simp; omega)
    | @make k nm xs hm =>
      rw [makeN_len]
      unfold makeC
      by_cases he : makeErr N0.length k nm xs = 0
      · rw [if_pos he, if_pos he, if_pos he]
        refine ⟨hmade, hadd, ?_, ?_⟩
        · simp; omega
        · simp; omega
      · rw [if_neg he, if_neg he, if_neg he]
        refine ⟨h1, h2, ?_, ?_⟩ <;> (simp; omega)
    | uni _ _ hc _ => exact ⟨h1, hc, by simp; omega, by simp; omega⟩
    | none _ => exact ⟨h1, h2, by simp; omega, by simp; omega⟩
theorem MakeOp.kind {o : OpV} {made : List Nat} {k : Int} {nm : ByteArray} {xs : List Int} (h : MakeOp o made k nm xs) : o.what = k ∧ (k = 2 ∨ k = 3 ∨ k = 4) := by
  cases h with
  | con h => exact ⟨h, .inl rfl⟩
  | pair h => exact ⟨h, .inr (.inl rfl)⟩
  | arrow h => exact ⟨h, .inr (.inr rfl)⟩
theorem MakeOp.same {o : OpV} {made : List Nat} {k k1 : Int} {nm nm1 : ByteArray} {xs xs1 : List Int} (h : MakeOp o made k nm xs) (h1 : MakeOp o made k1 nm1 xs1) : k = k1 ∧ nm = nm1 ∧ xs = xs1 := by
  have hk : k = k1 := h.kind.1.symm.trans h1.kind.1
  subst hk
  cases h with
  | con h =>
    cases h1 with
    | con _ => exact ⟨rfl, rfl, rfl⟩
  | pair h =>
    cases h1 with
    | pair _ => exact ⟨rfl, rfl, rfl⟩
  | arrow h =>
    cases h1 with
    | arrow _ => exact ⟨rfl, rfl, rfl⟩
theorem StepR.same {o : OpV} {N N1 N2 : List Nd} {made made1 made2 : List Nat} {c c0 c1 c2 : Nat → Nat} (hs : SameC N c c0) (hc : ∀ i, i < N.length → c i < N.length) (hc0 : ∀ i, i < N.length → c0 i < N.length) (h : StepR o N made c N1 made1 c1) (h' : StepR o N made c0 N2 made2 c2) : N1 = N2 ∧ made1 = made2 ∧ SameC N1 c1 c2 := by
  cases h with
  | var h =>
    cases h' with
    | var _ => exact ⟨rfl, rfl, hs.add hc hc0 _⟩
    | make hm => have := hm.kind; omega
    | uni k _ _ _ => omega
    | none k => omega
  | @make k nm xs hm =>
    cases h' with
    | var k => have := hm.kind; omega
    | make hm' =>
      obtain ⟨rfl, rfl, rfl⟩ := hm.same hm'
      refine ⟨rfl, rfl, ?_⟩
      unfold makeN makeC
      split
      · exact hs.add hc hc0 _
      · exact hs
    | uni k _ _ _ => have := hm.kind; omega
    | none k => have := hm.kind; omega
  | uni h hu _ ha =>
    cases h' with
    | var k => omega
    | make hm' => have := hm'.kind; omega
    | uni _ hu' _ ha' => exact ⟨rfl, rfl, (uni_same hs (.inl ⟨rfl, rfl⟩) hu hu' ha ha').2⟩
    | none k => omega
  | none h =>
    cases h' with
    | var k => omega
    | make hm' => have := hm'.kind; omega
    | uni k _ _ _ => omega
    | none _ => exact ⟨rfl, rfl, hs⟩
theorem RunsR.same : ∀ {ops : List OpV} {N N' : List Nd} {made made' : List Nat} {c c' : Nat → Nat}, RunsR ops N made c → RunsR ops N' made' c' → N = N' ∧ made = made' ∧ SameC N c c'
  | [], N, N', made, made', c, c', h, h' => by
    obtain ⟨rfl, rfl, rfl⟩ := h
    obtain ⟨rfl, rfl, rfl⟩ := h'
    exact ⟨rfl, rfl, SameC.refl _ _⟩
  | o :: rest, N, N', made, made', c, c', ⟨N0, made0, c0, h, hs⟩, ⟨N1, made1, c1, h', hs'⟩ => by
    obtain ⟨rfl, rfl, hsc⟩ := RunsR.same h h'
    exact hs.same hsc h.facts.2.1 h'.facts.2.1 hs'
theorem take_rev (ops : List OpV) (k : Nat) (hk : k < ops.length) : (ops.take (k + 1)).reverse = ops[k] :: (ops.take k).reverse := by
  rw [List.take_succ_eq_append_getElem hk, List.reverse_append]; rfl
end Go.Proofs.Ytafpbdmggnfdnaa

/- The reference's store in memory: find, is, CopyInts. -/
namespace Go.Proofs.Ytafpbdmggnfdnaa
open Go.RowKit
set_option linter.unusedVariables false

def linkOf (up : List Nat) (i : Nat) : Int := if par up i = i then -1 else (par up i : Int)
def links (up : List Nat) : List Int := (List.range up.length).map (linkOf up)
def rnCell (p : Nd) (a : Option Addr × Nat) (l : Int) : List Value := [.int .i64 p.kind, .string p.name, .slice a.1 p.args.length a.2, .int .i64 l]
def rnCells : List Nd → List (Option Addr × Nat) → List Int → List Value
  | p :: N, a :: ad, l :: ls => rnCell p a l ++ rnCells N ad ls
  | _, _, _ => []
theorem rnCells_length : ∀ (N : List Nd) (ad : List (Option Addr × Nat)) (ls : List Int), ad.length = N.length → ls.length = N.length → (rnCells N ad ls).length = N.length * 4
  | [], _, _, _, _ => by simp [rnCells]
  | p :: N, [], _, h, _ => by simp at h
  | p :: N, a :: ad, [], _, h => by simp at h
  | p :: N, a :: ad, l :: ls, h, k => by
    have := rnCells_length N ad ls (by simpa using h) (by simpa using k)
    simp only [rnCells, rnCell, List.length_append, List.length_cons, List.length_nil, this]; omega
theorem rnCells_snoc (p : Nd) (a : Option Addr × Nat) (l : Int) : ∀ (N : List Nd) (ad : List (Option Addr × Nat)) (ls : List Int), ad.length = N.length → ls.length = N.length → rnCells (N ++ [p]) (ad ++ [a]) (ls ++ [l]) = rnCells N ad ls ++ rnCell p a l
  | [], [], [], _, _ => by simp [rnCells]
  | [], a :: _, _, h, _ => by simp at h
  | [], [], l :: _, _, h => by simp at h
  | q :: N, [], _, h, _ => by simp at h
  | q :: N, b :: ad, [], _, h => by simp at h
  | q :: N, b :: ad, m :: ls, h, k => by
    simp only [List.cons_append, rnCells]
    rw [rnCells_snoc p a l N ad ls (by simpa using h) (by simpa using k), List.append_assoc]
theorem rnCells_at : ∀ (N : List Nd) (ad : List (Option Addr × Nat)) (ls : List Int) (f : Nat) (p : Nd) (a : Option Addr × Nat) (l : Int), N[f]? = some p → ad[f]? = some a → ls[f]? = some l →
    (rnCells N ad ls)[f * 4]? = some (.int .i64 p.kind) ∧ (rnCells N ad ls)[f * 4 + 1]? = some (.string p.name) ∧ (rnCells N ad ls)[f * 4 + 2]? = some (.slice a.1 p.args.length a.2) ∧ (rnCells N ad ls)[f * 4 + 3]? = some (.int .i64 l)
  | [], _, _, f, p, a, l, h, _, _ => by simp at h
  | q :: N, [], _, f, p, a, l, _, h, _ => by simp at h
  | q :: N, b :: ad, [], f, p, a, l, _, _, h => by simp at h
  | q :: N, b :: ad, m :: ls, 0, p, a, l, h1, h2, h3 => by
    simp at h1 h2 h3; subst h1; subst h2; subst h3; simp [rnCells, rnCell]
  | q :: N, b :: ad, m :: ls, f + 1, p, a, l, h1, h2, h3 => by
    simp at h1 h2 h3
    obtain ⟨g1, g2, g3, g4⟩ := rnCells_at N ad ls f p a l h1 h2 h3
    have e : ∀ j, (rnCells (q :: N) (b :: ad) (m :: ls))[j + 4]? = (rnCells N ad ls)[j]? := by
      intro j; simp only [rnCells, rnCell]; simp
    exact ⟨by rw [show (f + 1) * 4 = f * 4 + 4 by omega, e]; exact g1, by rw [show (f + 1) * 4 + 1 = f * 4 + 1 + 4 by omega, e]; exact g2, by rw [show (f + 1) * 4 + 2 = f * 4 + 2 + 4 by omega, e]; exact g3, by rw [show (f + 1) * 4 + 3 = f * 4 + 3 + 4 by omega, e]; exact g4⟩
theorem rnCells_set : ∀ (N : List Nd) (ad : List (Option Addr × Nat)) (ls : List Int) (f : Nat) (l : Int), ad.length = N.length → ls.length = N.length → rnCells N ad (ls.set f l) = (rnCells N ad ls).set (f * 4 + 3) (.int .i64 l)
  | [], _, _, f, l, _, _ => by simp [rnCells]
  | q :: N, [], _, f, l, h, _ => by simp at h
  | q :: N, b :: ad, [], f, l, _, h => by simp at h
  | q :: N, b :: ad, m :: ls, 0, l, _, _ => by simp [rnCells, rnCell]
  | q :: N, b :: ad, m :: ls, f + 1, l, h, k => by
    rw [List.set_cons_succ]
    simp only [rnCells]
    rw [rnCells_set N ad ls f l (by simpa using h) (by simpa using k), show (f + 1) * 4 + 3 = f * 4 + 3 + 4 by omega]
    simp [rnCell]
theorem links_length (up : List Nat) : (links up).length = up.length := by simp [links]
theorem links_at (up : List Nat) (i : Nat) (hi : i < up.length) : (links up)[i]? = some (linkOf up i) := by
  unfold links; rw [List.getElem?_map, List.getElem?_range hi]; rfl
theorem links_snoc (up : List Nat) : links (up ++ [up.length]) = links up ++ [-1] := by
  unfold links
  rw [List.length_append, List.length_singleton, List.range_succ, List.map_append]
  congr 1
  · refine List.map_congr_left fun i hi => ?_
    have hi' : i < up.length := by simpa using hi
    have e : par (up ++ [up.length]) i = par up i := by rw [par_append, if_neg (by omega)]
    unfold linkOf
    rw [e]
  · simp only [List.map_cons, List.map_nil, linkOf]
    rw [par_append, if_pos rfl, if_pos rfl]
theorem links_set (up : List Nat) (x y : Nat) (hx : x < up.length) (hne : x ≠ y) : links (up.set x y) = (links up).set x (y : Int) := by
  refine List.ext_getElem? fun i => ?_
  by_cases hi : i < up.length
  · rw [links_at _ _ (by simpa using hi), List.getElem?_set]
    unfold linkOf
    rw [par_set _ _ _ _ hx]
    by_cases e : i = x
    · subst e
      rw [if_pos rfl, if_neg (fun e => hne e.symm), if_pos rfl, if_pos (by rw [links_length]; exact hi)]
    · rw [if_neg e, links_at _ _ hi]
      conv => rhs; rw [if_neg (fun h => e h.symm)]
      rfl
  · rw [List.getElem?_eq_none (by rw [links_length, List.length_set]; omega), List.getElem?_eq_none (by rw [List.length_set, links_length]; omega)]

/-- The reference's store in memory: the slice v, the addresses of the nodes' arguments. -/
structure RSt (w : World) (v : Value) (ad : List (Option Addr × Nat)) (R : RS) : Prop where
  own : w.ownsRow 0 91 4 v R.nodes.length (rnCells R.nodes ad (links R.up))
  lad : ad.length = R.nodes.length
  lup : R.up.length = R.nodes.length
  args : ∀ (i : Nat) (p : Nd) (a : Option Addr × Nat), R.nodes[i]? = some p → ad[i]? = some a → Nats w a.1 p.args ∧ ∀ x, a.1 = some x → x.block < w.heap.size ∧ v.ownBlock ≠ some x.block
  many : R.nodes.length ≤ 1000000
  few : ∀ (i : Nat) (p : Nd), R.nodes[i]? = some p → p.args.length ≤ 1000000
section
variable {w w' : World} {v : Value} {ad : List (Option Addr × Nat)} {R : RS}
theorem RSt.only {F : Nat → Prop} (h : RSt w v ad R) (ho : Only F w w') (hv : ∀ b, v.ownBlock = some b → ¬ F b) (hA : ∀ (i : Nat) (a : Option Addr × Nat), ad[i]? = some a → ∀ x, a.1 = some x → ¬ F x.block) : RSt w' v ad R :=
  ⟨own_only h.own ho hv, h.lad, h.lup, fun i p a hi ha => ⟨Ints.only (h.args i p a hi ha).1 ho (hA i a ha), fun x hx => ⟨Nat.lt_of_lt_of_le ((h.args i p a hi ha).2 x hx).1 ho.size, ((h.args i p a hi ha).2 x hx).2⟩⟩, h.many, h.few⟩
theorem RSt.later (h : RSt w v ad R) (hb : Below w.heap.size w w') : RSt w' v ad R := h.only (Only.of_below hb (fun _ => False)) (fun _ _ hf => hf.elim) (fun _ _ _ _ _ hf => hf.elim)
theorem RSt.drew (h : RSt w v ad R) : RSt w.drew v ad R := ⟨h.own, h.lad, h.lup, h.args, h.many, h.few⟩
theorem RSt.drewN (h : RSt w v ad R) (n : Nat) : RSt (w.drewN n) v ad R := ⟨h.own, h.lad, h.lup, h.args, h.many, h.few⟩
theorem RSt.node (h : RSt w v ad R) {f : Nat} (hf : f < R.nodes.length) {g cap m : Nat} (hv : v = .slice (some ⟨g, 0, none⟩) m cap) :
    ∃ p a, R.nodes[f]? = some p ∧ ad[f]? = some a ∧ w.cell? ⟨g, f * 4, none⟩ = some (.int .i64 p.kind) ∧ w.cell? ⟨g, f * 4 + 1, none⟩ = some (.string p.name) ∧ w.cell? ⟨g, f * 4 + 2, none⟩ = some (.slice a.1 p.args.length a.2) ∧ w.cell? ⟨g, f * 4 + 3, none⟩ = some (.int .i64 (linkOf R.up f)) := by
  have hp : R.nodes[f]? = some R.nodes[f] := List.getElem?_eq_getElem hf
  have ha : ad[f]? = some (ad[f]'(by rw [h.lad]; exact hf)) := List.getElem?_eq_getElem _
  obtain ⟨h1, h2, h3, h4⟩ := rnCells_at _ _ _ f _ _ _ hp ha (links_at R.up f (by rw [h.lup]; exact hf))
  have c : ∀ j u, (rnCells R.nodes ad (links R.up))[j]? = some u → w.cell? ⟨g, j, none⟩ = some u := by
    intro j u hu
    have := h.own.cells (g := g) (by rw [hv]; rfl) j u hu
    rwa [addr_add', Nat.zero_add] at this
  exact ⟨_, _, hp, ha, c _ _ h1, c _ _ h2, c _ _ h3, c _ _ h4⟩
theorem RSt.linkAt (h : RSt w v ad R) {g cap m : Nat} (hv : v = .slice (some ⟨g, 0, none⟩) m cap) (f : Nat) (hf : f < R.nodes.length) : w.cell? ⟨g, f * 4 + 3, none⟩ = some (.int .i64 (linkOf R.up f)) := by
  obtain ⟨_, _, _, _, _, _, _, h4⟩ := h.node hf hv
  exact h4
theorem RSt.free (h : RSt w v ad R) {b m cap : Nat} (e : v = .slice (some ⟨b, 0, none⟩) m cap) (j : Nat) : w.frozen? ⟨b, j, none⟩ = false := by
  rcases h.own.2 with ⟨h1, _⟩ | ⟨g, cap', cur, h1, _, h3, _⟩
  · rw [e] at h1; cases h1
  · rw [e] at h1
    injection h1 with h1 _ _
    injection h1 with h1
    injection h1 with h1
    subst h1
    simp [World.frozen?, h3]
theorem RSt.lt (h : RSt w v ad R) (b : Nat) (hb : v.ownBlock = some b) : b < w.heap.size := (h.own.lt b hb).2
theorem RSt.adlt (h : RSt w v ad R) (i : Nat) (a : Option Addr × Nat) (ha : ad[i]? = some a) (x : Addr) (hx : a.1 = some x) : x.block < w.heap.size := by
  have hi : i < R.nodes.length := by rw [← h.lad]; exact (List.getElem?_eq_some_iff.1 ha).1
  exact ((h.args i _ a (List.getElem?_eq_getElem hi) ha).2 x hx).1
end

set_option maxHeartbeats 1000000 in
theorem rfind_any {w : World} {v : Value} {ad : List (Option Addr × Nat)} {R : RS} {c d : Nat → Nat} (h : RSt w v ad R) (hf : Forest R.nodes.length (par R.up) c d) (i : Nat) (hi : i < R.nodes.length) :
    Calls Try.prog 60 #[.agg #[v], .int .i64 (i : Int)] w fun e w' => e = .returned (.int .i64 (c i : Int)) ∧ Below w.heap.size w w' := by
  obtain ⟨g, cap, hv, hcap⟩ := own_pos h.own (by omega)
  have hm := h.many
  have HA := hide (fun k (hk : k < R.nodes.length) => h.linkAt hv k hk)
  have hgl : g < w.heap.size := h.lt g (by rw [hv]; rfl)
  subst hv
  clear h
  go_enter Try.func60, Try.ntmps60
  go_wp2
  go_loop [1] (fun v => ∃ k : Nat, v = .int .i64 k ∧ k < R.nodes.length ∧ Hid (c k = c i)) (fun v => d (intOf v).toNat)
  case atStart => exact ⟨i, rfl, hi, hide rfl⟩
  case round =>
    obtain ⟨k, rfl, hk, HC⟩ := hrel
    have hcell := HA.out k hk
    unfold linkOf at hcell
    by_cases he : par R.up k = k
    · rw [if_pos he] at hcell
      have Hm : Hid (k = c i) := hide ((hf.root k hk he).symm.trans HC.out)
      clear he
      go_wp2
      go_ret
      exact ⟨ret_int (by rw [← Hm.out]), (Below.refl _ _).alloc (Nat.le_refl _) _⟩
    · rw [if_neg he] at hcell
      have hmn := hf.lt k hk
      have Hsame := hide (hf.same k hk)
      have Hfall := hide (hf.fall k hk he)
      clear he
      generalize par R.up k = m at *
      go_wp2
      go_round
      case rel => exact ⟨m, rfl, hmn, hide (Hsame.out.trans HC.out)⟩
      case measure => simp only [intOf, Int.toNat_natCast]; exact Hfall.out

def inB (n : Nat) (x : Int) : Bool := decide (0 ≤ x ∧ x < (n : Int))
theorem ris_any {w : World} {v : Value} {ad : List (Option Addr × Nat)} {R : RS} (h : RSt w v ad R) (x : Int) :
    Calls Try.prog 39 #[.agg #[v], .int .i64 x] w fun e w' => e = .returned (.bool (inB R.nodes.length x)) ∧ Below w.heap.size w w' := by
  obtain ⟨A, cap, hv, _, _⟩ := own_len h.own
  have hm := h.many
  subst hv
  clear h
  rcases (show x < 0 ∨ (0 ≤ x ∧ x < (R.nodes.length : Int)) ∨ (0 ≤ x ∧ (R.nodes.length : Int) ≤ x) by omega) with h1 | ⟨h1, h2⟩ | ⟨h1, h2⟩
  · have HB : Hid (inB R.nodes.length x = false) := hide (by simp [inB]; omega)
    have k1 : decide ((0 : Int) ≤ x) = false := by simp; omega
    go_enter Try.func39, Try.ntmps39
    go_wp2
    go_ret
    exact ⟨ret_bool HB.out.symm, (Below.refl _ _).alloc (Nat.le_refl _) _⟩
  · have HB : Hid (inB R.nodes.length x = true) := hide (by simp [inB]; omega)
    have k1 : decide ((0 : Int) ≤ x) = true := by simp; omega
    have k2 : decide (x < (R.nodes.length : Int)) = true := by simp; omega
    go_enter Try.func39, Try.ntmps39
    go_wp2
    go_ret
    exact ⟨ret_bool HB.out.symm, (Below.refl _ _).alloc (Nat.le_refl _) _⟩
  · have HB : Hid (inB R.nodes.length x = false) := hide (by simp [inB]; omega)
    have k1 : decide ((0 : Int) ≤ x) = true := by simp; omega
    have k2 : decide (x < (R.nodes.length : Int)) = false := by simp; omega
    go_enter Try.func39, Try.ntmps39
    go_wp2
    go_ret
    exact ⟨ret_bool HB.out.symm, (Below.refl _ _).alloc (Nat.le_refl _) _⟩

set_option maxHeartbeats 1000000 in
theorem copyInts_any (A : Option Addr) (c : Nat) (xs : List Int) (w : World) (h : Ints w A xs) (hl : xs.length ≤ 1000000) : Calls Try.prog 16 #[.slice A xs.length c] w (NewInts w xs) := by
  obtain ⟨i1, ki, kz0, kz1, kz2⟩ := info_parts intInfo
  have Ki := hide ki; have Kz0 := hide kz0; have Kz1 := hide kz1; have Kz2 := hide kz2
  clear ki kz0 kz1 kz2
  have HO := hide (World.ownsRow_made (base := w.heap.size) (e := 3) (size := 1) w #[] 0 (Nat.le_refl _) (Nat.zero_le _) rfl)
  rcases A with _ | a
  · have hx : xs = [] := by
      rcases xs with _ | ⟨x, xs⟩
      · rfl
      · obtain ⟨b, off, e, _⟩ := h (by simp); cases e
    subst hx
    go_enter Try.func16, Try.ntmps16
    go_wp2_with (at_builtin; refine wpList_append_nothing rfl (.tmp 5) (.tmp 6) 30 rfl w.heap.size 3 i1 1 Try.underlying30 Ki.out (.slice (some ⟨w.heap.size, 0, none⟩) 0 0) 0 [] rfl HO.out c rfl ?_)
    go_ret
    exact ⟨_, 0, rfl, fun hne => absurd rfl hne, (fun x hx => by injection hx with hx; rw [← hx]; simp), (Below.refl _ _).alloc (Nat.le_refl _) _⟩
  · have HC := hide (ints_cells h 3)
    have H1 : Hid (∀ u ∈ xs.map (Value.int .i64), u.oneCell' = true) := hide (ints_oneCell .i64 xs)
    go_enter Try.func16, Try.ntmps16
    go_wp2_with (at_builtin; refine wpList_append_own _ rfl (.tmp 5) (.tmp 6) 30 rfl w.heap.size 3 i1 (.int .i64 0) 1 8 Try.underlying30 Ki.out Kz0.out Kz1.out Kz2.out rfl (by decide) (.slice (some ⟨w.heap.size, 0, none⟩) 0 0) 0 [] rfl HO.out a xs.length c (xs.map (Value.int .i64)) rfl (by simp) HC.out H1.out (by unfold maxLen; omega) (by omega) (by simp) ?_; intro v' w1 hown hgrow hnil)
    go_ret
    simp only [Nat.zero_add, List.nil_append] at hown
    obtain ⟨A', c', rfl, hI, hB⟩ := ints_of_own hown
    exact ⟨A', c', rfl, hI, hB, ((Below.refl w.heap.size w).alloc (Nat.le_refl _) _).grown hgrow (by simp) (by intro k hk; simp [Value.ownBlock] at hk; omega)⟩
end Go.Proofs.Ytafpbdmggnfdnaa

/- placed, pair: parts of a script's run. -/
namespace Go.Proofs.Ytafpbdmggnfdnaa
open Go.RowKit
set_option linter.unusedVariables false

theorem placedL_length (xs : List Int) (made : List Nat) : (placedL xs made).length = xs.length := by simp [placedL]
structure PRel (w : World) (ys : List Int) (vo : Value) (k : Nat) (wr : World) : Prop where
  below : Below w.heap.size w wr
  own : wr.ownsRow w.heap.size 3 1 vo k ((ys.take k).map (Value.int .i64))
theorem PRel.next {w wr W : World} {ys : List Int} {vo v' : Value} {k : Nat} {y : Int} {t : TypeId} (R : PRel w ys vo k wr) (hy : ys[k]? = some y) (hown : W.ownsRow w.heap.size 3 1 v' (k + 1) ((ys.take k).map (Value.int .i64) ++ [.int .i64 y])) (hg : (wr.alloc (.cells #[.int .i64 y] t)).grownBy W vo.ownBlock) : PRel w ys v' (k + 1) W := by
  refine ⟨(R.below.alloc R.below.size _).grown hg (by have := R.below.size; simp; omega) (fun b hb => (R.own.lt b hb).1), ?_⟩
  rw [List.take_add_one, hy, Option.toList_some, List.map_append]
  exact hown
set_option maxRecDepth 100000 in
set_option maxHeartbeats 2000000 in
theorem placed_any (w : World) (A B : Option Addr) (c d : Nat) (xs : List Int) (made : List Nat) (hA : Ints w A xs) (hB : Nats w B made) (hl : xs.length ≤ 1000000) (hm : made.length ≤ 1000000) :
    Calls Try.prog 21 #[.slice A xs.length c, .slice B made.length d] w (NewInts w (placedL xs made)) := by
  obtain ⟨i1, ki, kz0, kz1, kz2⟩ := info_parts intInfo
  have Ki := hide ki; have Kz0 := hide kz0; have Kz1 := hide kz1; have Kz2 := hide kz2
  clear ki kz0 kz1 kz2
  have HR : Hid (PRel w (placedL xs made) (.slice (some ⟨w.heap.size, 0, none⟩) 0 0) 0 (w.alloc (.cells #[] 3))) := hide ⟨(Below.refl _ _).alloc (Nat.le_refl _) _, by simpa using World.ownsRow_made (base := w.heap.size) (e := 3) (size := 1) w #[] 0 (Nat.le_refl _) (Nat.zero_le _) rfl⟩
  have HA := hide hA; have HB := hide hB
  clear hA hB
  go_enter Try.func21, Try.ntmps21
  go_wp2
  go_loopw [5, 6] (fun vo vi wr => ∃ k : Nat, vi = .int .i64 k ∧ k ≤ xs.length ∧ PRel w (placedL xs made) vo k wr) (fun _ vi _ => xs.length - (intOf vi).toNat)
  case atStart => exact ⟨0, rfl, by omega, HR.out⟩
  case round =>
    obtain ⟨k, rfl, hk, R⟩ := hrel
    clear HR
    by_cases hlt : k < xs.length
    · obtain ⟨b, off, rfl, hb, d0⟩ := HA.out.at_ k hlt
      obtain ⟨x, hx⟩ : ∃ x, xs[k] = x := ⟨_, rfl⟩
      have d1 := (R.below.cell (p := ⟨b, off + k, none⟩) hb).trans d0
      rw [hx] at d1
      have Hy : Hid ((placedL xs made)[k]? = some (placed1 made x)) := hide (by unfold placedL; rw [List.getElem?_map, List.getElem?_eq_getElem hlt, hx]; rfl)
      clear d0 hx
      have hz : w.heap.size ≤ wr.heap.size := R.below.size
      by_cases hin : 0 ≤ x ∧ x < (made.length : Int)
      · obtain ⟨m, rfl⟩ : ∃ m : Nat, x = m := ⟨x.toNat, by omega⟩
        have hmm : m < made.length := by omega
        obtain ⟨b2, o2, rfl, hb2, e0⟩ := HB.out.at_ m (by simpa [cast] using hmm)
        simp only [cast, List.getElem_map] at e0
        rw [par_at hmm] at e0
        have e1 := (R.below.cell (p := ⟨b2, o2 + m, none⟩) hb2).trans e0
        have hp : placed1 made (m : Int) = (par made m : Int) := by unfold placed1; rw [if_pos hin]; simp
        rw [hp] at Hy
        obtain ⟨y, hy⟩ : ∃ y : Nat, par made m = y := ⟨_, rfl⟩
        rw [hy] at e1 Hy
        have k1 : decide ((0 : Int) ≤ (m : Int)) = true := by simp
        have k2 : decide ((m : Int) < (made.length : Int)) = true := by simp; omega
        have k3 : decide (m < made.length) = true := by simp; omega
        have HRr := hide R
        have O1 := hide (R.own.alloc (.cells #[.int .i64 (y : Int)] 3))
        have N1 := hide (one_new wr (.int .i64 (y : Int)) 3)
        have E1 : Hid (∀ u ∈ [Value.int .i64 (y : Int)], u.oneCell' = true) := hide (by simp [Value.oneCell'])
        clear e0 hp hy R hin
        go_wp2_with (at_builtin; refine wpList_append_own _ rfl (.tmp 28) (.tmp 36) 30 rfl w.heap.size 3 i1 (.int .i64 0) 1 8 Try.underlying30 Ki.out Kz0.out Kz1.out Kz2.out rfl (by decide) u5 k (((placedL xs made).take k).map (Value.int .i64)) rfl O1.out ⟨wr.heap.size, 0, none⟩ 1 1 [.int .i64 (y : Int)] rfl rfl N1.out E1.out (by unfold maxLen; omega) (by omega) (by simp; omega) ?_; intro v' w1 hown hgrow hnil; clear hnil; have Hown := hide hown; have Hgrow := hide hgrow; clear hown hgrow)
        go_roundw
        case measure => simp [intOf]; omega
        case rel => exact ⟨k + 1, by go_num, by omega, HRr.out.next Hy.out Hown.out Hgrow.out⟩
      · have hp : placed1 made x = x := by unfold placed1; rw [if_neg hin]
        rw [hp] at Hy
        have HRr := hide R
        have O1 := hide (R.own.alloc (.cells #[.int .i64 x] 3))
        have N1 := hide (one_new wr (.int .i64 x) 3)
        have E1 : Hid (∀ u ∈ [Value.int .i64 x], u.oneCell' = true) := hide (by simp [Value.oneCell'])
        have hcase : (x < 0) ∨ (0 ≤ x ∧ (made.length : Int) ≤ x) := by omega
        clear hp R hin
        rcases hcase with h1 | ⟨h1, h2⟩
        · have k1 : decide ((0 : Int) ≤ x) = false := by simp; omega
          go_wp2_with (at_builtin; refine wpList_append_own _ rfl (.tmp 38) (.tmp 43) 30 rfl w.heap.size 3 i1 (.int .i64 0) 1 8 Try.underlying30 Ki.out Kz0.out Kz1.out Kz2.out rfl (by decide) u5 k (((placedL xs made).take k).map (Value.int .i64)) rfl O1.out ⟨wr.heap.size, 0, none⟩ 1 1 [.int .i64 x] rfl rfl N1.out E1.out (by unfold maxLen; omega) (by omega) (by simp; omega) ?_; intro v' w1 hown hgrow hnil; clear hnil; have Hown := hide hown; have Hgrow := hide hgrow; clear hown hgrow)
          go_roundw
          case measure => simp [intOf]; omega
          case rel => exact ⟨k + 1, by go_num, by omega, HRr.out.next Hy.out Hown.out Hgrow.out⟩
        · have k1 : decide ((0 : Int) ≤ x) = true := by simp; omega
          have k2 : decide (x < (made.length : Int)) = false := by simp; omega
          go_wp2_with (at_builtin; refine wpList_append_own _ rfl (.tmp 38) (.tmp 43) 30 rfl w.heap.size 3 i1 (.int .i64 0) 1 8 Try.underlying30 Ki.out Kz0.out Kz1.out Kz2.out rfl (by decide) u5 k (((placedL xs made).take k).map (Value.int .i64)) rfl O1.out ⟨wr.heap.size, 0, none⟩ 1 1 [.int .i64 x] rfl rfl N1.out E1.out (by unfold maxLen; omega) (by omega) (by simp; omega) ?_; intro v' w1 hown hgrow hnil; clear hnil; have Hown := hide hown; have Hgrow := hide hgrow; clear hown hgrow)
          go_roundw
          case measure => simp [intOf]; omega
          case rel => exact ⟨k + 1, by go_num, by omega, HRr.out.next Hy.out Hown.out Hgrow.out⟩
    · obtain rfl : k = xs.length := by omega
      have hown := R.own
      rw [List.take_of_length_le (by rw [placedL_length]; omega), ← placedL_length xs made] at hown
      obtain ⟨A', c', rfl, hI, hB'⟩ := ints_of_own hown
      have HI := hide hI; have HB' := hide hB'; have Hb := hide R.below
      have Hl := hide (placedL_length xs made)
      clear hown hI hB' R
      go_wp2
      go_ret
      exact ⟨A', c', rfl, HI.out, HB'.out, Hb.out⟩

set_option maxHeartbeats 1000000 in
theorem pair_fn (w : World) (A : Option Addr) (c : Nat) (xs : List Int) (hA : Ints w A xs) (hl : xs.length ≤ 1000000) :
    Calls Try.prog 33 #[.slice A xs.length c] w fun e w' => e = .returned (.tuple #[.int .i64 (fst2 xs), .int .i64 (snd2 xs)]) ∧ ∃ n, w' = w.drewN n := by
  rcases (show xs.length < 2 ∨ 2 ≤ xs.length by omega) with h | h
  · have h1 : fst2 xs = -1 ∧ snd2 xs = -1 := by
      rcases xs with _ | ⟨a, _ | ⟨b, xs⟩⟩
      · exact ⟨rfl, rfl⟩
      · exact ⟨rfl, rfl⟩
      · simp at h; omega
    have H1 := hide h1
    have k1 : decide ((xs.length : Int) < 2) = true := by simp; omega
    clear h1
    go_enter Try.func33, Try.ntmps33
    go_wp2
    go_ret2
    exact ⟨by rw [H1.out.1, H1.out.2]; rfl, 0, rfl⟩
  · obtain ⟨b, off, rfl, hb, e0⟩ := hA.at_ 0 (by omega)
    obtain ⟨b', off', e, -, e1⟩ := hA.at_ 1 (by omega)
    obtain ⟨rfl, rfl⟩ : b = b' ∧ off = off' := by injection e with e; injection e with e1 e2; exact ⟨e1, e2⟩
    have H1 : Hid (fst2 xs = xs[0] ∧ snd2 xs = xs[1]) := hide (by
      rcases xs with _ | ⟨a, _ | ⟨b, xs⟩⟩
      · simp at h
      · simp at h
      · exact ⟨rfl, rfl⟩)
    obtain ⟨x0, h0⟩ : ∃ x, xs[0] = x := ⟨_, rfl⟩
    obtain ⟨x1, h1⟩ : ∃ x, xs[1] = x := ⟨_, rfl⟩
    rw [h0, h1] at H1
    rw [h0] at e0
    rw [h1] at e1
    simp only [Nat.add_zero] at e0
    have k1 : decide ((xs.length : Int) < 2) = false := by simp; omega
    have k2 : (0 : Int) < (xs.length : Int) := by omega
    have k3 : (1 : Int) < (xs.length : Int) := by omega
    have k4 : 0 < xs.length := by omega
    have k5 : 1 < xs.length := by omega
    clear h0 h1 e hA
    go_enter Try.func33, Try.ntmps33
    go_wp2
    go_quiet (fail)
    go_wp2
    go_ret2
    exact ⟨by rw [H1.out.1, H1.out.2]; rfl, _, rfl⟩
end Go.Proofs.Ytafpbdmggnfdnaa

/- The contracts of the reference lexer's at, remark, words, signs. -/
namespace Go.Proofs.Ytafpbdmggnfdnaa
open Go.RowKit
set_option linter.unusedVariables false

def atB (s : ByteArray) (k : Nat) (u : ByteArray) : Bool := (s.toList.drop k).take u.size == u.toList
theorem atB_long (s : ByteArray) (k : Nat) (u : ByteArray) (h : ¬ k + u.size ≤ s.size) (hk : k ≤ s.size) : atB s k u = false := by
  unfold atB
  rw [beq_eq_false_iff_ne]
  intro e
  have := congrArg List.length e
  rw [List.length_take, List.length_drop, size_toList, size_toList] at this
  omega
set_option maxHeartbeats 400000 in
theorem at_any (s : ByteArray) (a : Int) (u : ByteArray) (w : World) (h0 : 0 ≤ a) (h1 : a ≤ s.size) (hs : s.size ≤ 1000000) (hu : u.size ≤ 1000000) :
    Calls Try.prog 76 #[.string s, .int .i64 a, .string u] w fun e w' => e = .returned (.bool (atB s a.toNat u)) ∧ w = w' := by
  obtain ⟨k, rfl⟩ := Int.eq_ofNat_of_zero_le h0
  rw [Int.toNat_natCast]
  by_cases h : k + u.size ≤ s.size
  · have HX := hide (extract_take s k u.size)
    go_enter Try.func76, Try.ntmps76
    go_wp2
    go_ret
    exact ⟨ret_bool (by unfold atB; rw [← HX.out]), rfl⟩
  · have HX := hide (atB_long s k u h (by omega))
    go_enter Try.func76, Try.ntmps76
    go_wp2
    go_ret
    exact ⟨ret_bool HX.out.symm, rfl⟩
theorem atB_opens (s : ByteArray) (k : Nat) : atB s k ⟨#[40, 42]⟩ = opensL (s.toList.drop k) := by
  unfold atB
  generalize s.toList.drop k = l
  have h2 : (ByteArray.mk #[40, 42]).toList = [40, 42] := ByteArray.toList_mk [40, 42]
  have h3 : (ByteArray.mk #[40, 42]).size = 2 := rfl
  rw [h2, h3]
  rcases l with _ | ⟨c, _ | ⟨d, r⟩⟩
  · rfl
  · rw [Bool.eq_iff_iff]; simp [opensL]
  · rw [Bool.eq_iff_iff]; simp [opensL, ← UInt8.toNat_inj]; omega
theorem atB_closes (s : ByteArray) (k : Nat) : atB s k ⟨#[42, 41]⟩ = closesL (s.toList.drop k) := by
  unfold atB
  generalize s.toList.drop k = l
  have h2 : (ByteArray.mk #[42, 41]).toList = [42, 41] := ByteArray.toList_mk [42, 41]
  have h3 : (ByteArray.mk #[42, 41]).size = 2 := rfl
  rw [h2, h3]
  rcases l with _ | ⟨c, _ | ⟨d, r⟩⟩
  · rfl
  · rw [Bool.eq_iff_iff]; simp [closesL]
  · rw [Bool.eq_iff_iff]; simp [closesL, ← UInt8.toNat_inj]; omega

/-- Where the reference says that a remark ends; 0: it doesn't. -/
def remE (s : ByteArray) (k : Nat) : Nat := if (remL (s.toList.drop k) 0 0).2 then k + (remL (s.toList.drop k) 0 0).1 else 0
set_option maxHeartbeats 1000000 in
theorem rremark_at (s : ByteArray) (k : Nat) (w : World) (hk : k ≤ s.size) (hs : s.size ≤ 1000000) :
    Calls Try.prog 77 #[.string s, .int .i64 k] w fun e w' => e = .returned (.int .i64 (remE s k : Nat)) ∧ w = w' := by
  have HA : Hid (∀ j, atB s j ⟨#[40, 42]⟩ = opensL (s.toList.drop j)) := atB_opens s
  have HC : Hid (∀ j, atB s j ⟨#[42, 41]⟩ = closesL (s.toList.drop j)) := atB_closes s
  go_enter Try.func77, Try.ntmps77
  go_wp2
  go_loop [1, 5] (fun v u => ∃ (n : Nat) (d : Int), k + n ≤ s.size ∧ v = .int .i64 ((k : Int) + n) ∧ u = .int .i64 d ∧ -(n : Int) ≤ d ∧ d ≤ n ∧ Hid (remL (s.toList.drop k) 0 0 = remL (s.toList.drop (k + n)) d n)) (fun v _ => s.size - (intOf v).toNat)
  case atStart => exact ⟨0, 0, by omega, by simp, rfl, by omega, by omega, rfl⟩
  case round =>
    obtain ⟨n, d, hn, rfl, rfl, hd1, hd2, HI⟩ := hrel
    by_cases hlt : k + n < s.size
    · have HS := hide (remL_at s (k + n) d n hlt)
      have ho := opens_lt s (k + n)
      have hc := closes_lt s (k + n)
      have h63 : (k : Int) + n < s.size := by omega
      cases h1 : opensL (s.toList.drop (k + n))
      · cases h2 : closesL (s.toList.drop (k + n))
        · clear ho hc
          have H1 := hide h1; have H2 := hide h2; clear h1 h2
          go_wp2_with (go_at_call 76; refine (at_any _ _ _ _ (by omega) (by omega) hs (by decide)).mono ?_; rintro e w' ⟨rfl, rfl⟩; rw [show ((k : Int) + n).toNat = k + n from by omega]; first | rw [HA.out, H1.out] | rw [HC.out, H2.out])
          go_round
          case rel => exact ⟨n + 1, d, by omega, by go_num, rfl, by omega, by omega, hide (by rw [HI.out, HS.out, H1.out, H2.out]; rfl)⟩
          case measure => simp [intOf]; omega
        · have hc' := hc h2
          clear ho hc
          have H1 := hide h1; have H2 := hide h2; clear h1 h2
          by_cases hd : d = 1
          · subst hd
            go_wp2_with (go_at_call 76; refine (at_any _ _ _ _ (by omega) (by omega) hs (by decide)).mono ?_; rintro e w' ⟨rfl, rfl⟩; rw [show ((k : Int) + n).toNat = k + n from by omega]; first | rw [HA.out, H1.out] | rw [HC.out, H2.out])
            go_ret
            have h : remL (s.toList.drop k) 0 0 = (n + 2, true) := by rw [HI.out, HS.out, H1.out, H2.out]; rfl
            exact ⟨ret_int (by unfold remE; rw [h]; simp; omega), rfl⟩
          · have hd' : (d - 1 == 0) = false := by simp; omega
            go_wp2_with (go_at_call 76; refine (at_any _ _ _ _ (by omega) (by omega) hs (by decide)).mono ?_; rintro e w' ⟨rfl, rfl⟩; rw [show ((k : Int) + n).toNat = k + n from by omega]; first | rw [HA.out, H1.out] | rw [HC.out, H2.out])
            go_round
            case rel => exact ⟨n + 2, d - 1, by omega, by go_num, rfl, by omega, by omega, hide (by rw [HI.out, HS.out, H1.out, H2.out]; simp [show ¬ d - 1 = 0 by omega, Nat.add_assoc])⟩
            case measure => simp [intOf]; omega
      · have ho' := ho h1
        clear ho hc
        have H1 := hide h1; clear h1
        go_wp2_with (go_at_call 76; refine (at_any _ _ _ _ (by omega) (by omega) hs (by decide)).mono ?_; rintro e w' ⟨rfl, rfl⟩; rw [show ((k : Int) + n).toNat = k + n from by omega]; rw [HA.out, H1.out])
        go_round
        case rel => exact ⟨n + 2, d + 1, by omega, by go_num, rfl, by omega, by omega, hide (by rw [HI.out, HS.out, H1.out]; simp [Nat.add_assoc])⟩
        case measure => simp [intOf]; omega
    · have h63 : ¬ (k : Int) + n < s.size := by omega
      go_wp2
      go_ret
      have h := HI.out
      rw [remL_end s (k + n) _ _ (by omega)] at h
      exact ⟨ret_int (by unfold remE; rw [h]; rfl), rfl⟩

def signWords : List Bs := [[45, 62], [58, 58], [59, 59], [40], [41], [44], [124], [61], [60], [43], [45], [42], [95]]
set_option maxHeartbeats 400000 in
theorem words_any (w : World) : Calls Try.prog 82 #[] w fun e w' => e = .returned (.agg #[.string ⟨#[108, 101, 116]⟩, .string ⟨#[114, 101, 99]⟩, .string ⟨#[105, 110]⟩, .string ⟨#[102, 117, 110]⟩, .string ⟨#[105, 102]⟩, .string ⟨#[116, 104, 101, 110]⟩, .string ⟨#[101, 108, 115, 101]⟩, .string ⟨#[109, 97, 116, 99, 104]⟩, .string ⟨#[119, 105, 116, 104]⟩, .string ⟨#[116, 121, 112, 101]⟩, .string ⟨#[111, 102]⟩, .string ⟨#[116, 114, 117, 101]⟩, .string ⟨#[102, 97, 108, 115, 101]⟩]) ∧ Below w.heap.size w w' := by
  go_enter Try.func82, Try.ntmps82
  go_wp2
  exact bodyPost_ret (v := .agg #[.string ⟨#[108, 101, 116]⟩, .string ⟨#[114, 101, 99]⟩, .string ⟨#[105, 110]⟩, .string ⟨#[102, 117, 110]⟩, .string ⟨#[105, 102]⟩, .string ⟨#[116, 104, 101, 110]⟩, .string ⟨#[101, 108, 115, 101]⟩, .string ⟨#[109, 97, 116, 99, 104]⟩, .string ⟨#[119, 105, 116, 104]⟩, .string ⟨#[116, 121, 112, 101]⟩, .string ⟨#[111, 102]⟩, .string ⟨#[116, 114, 117, 101]⟩, .string ⟨#[102, 97, 108, 115, 101]⟩]) (by simp [results, Try.results82, go_sem]) rfl ⟨rfl, (Below.refl _ _).alloc (Nat.le_refl _) _⟩
theorem words_cell (w : World) (t : TypeId) (k : Nat) (h : k < 13) : (w.alloc (.cells #[.string ⟨#[108, 101, 116]⟩, .string ⟨#[114, 101, 99]⟩, .string ⟨#[105, 110]⟩, .string ⟨#[102, 117, 110]⟩, .string ⟨#[105, 102]⟩, .string ⟨#[116, 104, 101, 110]⟩, .string ⟨#[101, 108, 115, 101]⟩, .string ⟨#[109, 97, 116, 99, 104]⟩, .string ⟨#[119, 105, 116, 104]⟩, .string ⟨#[116, 121, 112, 101]⟩, .string ⟨#[111, 102]⟩, .string ⟨#[116, 114, 117, 101]⟩, .string ⟨#[102, 97, 108, 115, 101]⟩] t)).cell? ⟨w.heap.size, k, none⟩ = some (.string ⟨(keyWords.getD k []).toArray⟩) := by
  rw [cell_of_row _ _ _ _ _ _ (heap_alloc_new w _)]
  match k, h with
  | 0, _ => rfl
  | 1, _ => rfl
  | 2, _ => rfl
  | 3, _ => rfl
  | 4, _ => rfl
  | 5, _ => rfl
  | 6, _ => rfl
  | 7, _ => rfl
  | 8, _ => rfl
  | 9, _ => rfl
  | 10, _ => rfl
  | 11, _ => rfl
  | 12, _ => rfl
set_option maxHeartbeats 400000 in
theorem signs_any (w : World) : Calls Try.prog 83 #[] w fun e w' => e = .returned (.agg #[.string ⟨#[45, 62]⟩, .string ⟨#[58, 58]⟩, .string ⟨#[59, 59]⟩, .string ⟨#[40]⟩, .string ⟨#[41]⟩, .string ⟨#[44]⟩, .string ⟨#[124]⟩, .string ⟨#[61]⟩, .string ⟨#[60]⟩, .string ⟨#[43]⟩, .string ⟨#[45]⟩, .string ⟨#[42]⟩, .string ⟨#[95]⟩]) ∧ Below w.heap.size w w' := by
  go_enter Try.func83, Try.ntmps83
  go_wp2
  exact bodyPost_ret (v := .agg #[.string ⟨#[45, 62]⟩, .string ⟨#[58, 58]⟩, .string ⟨#[59, 59]⟩, .string ⟨#[40]⟩, .string ⟨#[41]⟩, .string ⟨#[44]⟩, .string ⟨#[124]⟩, .string ⟨#[61]⟩, .string ⟨#[60]⟩, .string ⟨#[43]⟩, .string ⟨#[45]⟩, .string ⟨#[42]⟩, .string ⟨#[95]⟩]) (by simp [results, Try.results83, go_sem]) rfl ⟨rfl, (Below.refl _ _).alloc (Nat.le_refl _) _⟩
theorem signs_cell (w : World) (t : TypeId) (k : Nat) (h : k < 13) : (w.alloc (.cells #[.string ⟨#[45, 62]⟩, .string ⟨#[58, 58]⟩, .string ⟨#[59, 59]⟩, .string ⟨#[40]⟩, .string ⟨#[41]⟩, .string ⟨#[44]⟩, .string ⟨#[124]⟩, .string ⟨#[61]⟩, .string ⟨#[60]⟩, .string ⟨#[43]⟩, .string ⟨#[45]⟩, .string ⟨#[42]⟩, .string ⟨#[95]⟩] t)).cell? ⟨w.heap.size, k, none⟩ = some (.string ⟨(signWords.getD k []).toArray⟩) := by
  rw [cell_of_row _ _ _ _ _ _ (heap_alloc_new w _)]
  match k, h with
  | 0, _ => rfl
  | 1, _ => rfl
  | 2, _ => rfl
  | 3, _ => rfl
  | 4, _ => rfl
  | 5, _ => rfl
  | 6, _ => rfl
  | 7, _ => rfl
  | 8, _ => rfl
  | 9, _ => rfl
  | 10, _ => rfl
  | 11, _ => rfl
  | 12, _ => rfl
end Go.Proofs.Ytafpbdmggnfdnaa

/- The contract of the reference lexer's one. -/
namespace Go.Proofs.Ytafpbdmggnfdnaa
open Go.RowKit
set_option linter.unusedVariables false

def oneE (k : Nat) (t : Int × Nat) : Nat := if t.2 = 0 then 0 else k + t.2
def OneOut (s : ByteArray) (k : Nat) (w : World) (e : Ending) (w' : World) : Prop :=
  e = .returned (.tuple #[.int .i64 (tokenL (s.toList.drop k)).1, .int .i64 (oneE k (tokenL (s.toList.drop k)) : Nat)]) ∧ Below w.heap.size w w'
theorem one_close {s : ByteArray} {k j : Nat} {K : Int} {w w' : World} (z : Nat) (hT : tokenL (s.toList.drop k) = (K, z)) (hz : 0 < z) (hj : k + z = j) (hb : Below w.heap.size w w') :
    OneOut s k w (.returned (.tuple #[.int .i64 K, .int .i64 j])) w' := by
  unfold OneOut
  rw [hT]
  refine ⟨?_, hb⟩
  rw [← hj]
  simp [oneE, show ¬ z = 0 by omega]
theorem one_none {s : ByteArray} {k : Nat} {w w' : World} (hT : tokenL (s.toList.drop k) = (0, 0)) (hb : Below w.heap.size w w') :
    OneOut s k w (.returned (.tuple #[.int .i64 0, .int .i64 0])) w' := by
  unfold OneOut
  rw [hT]
  exact ⟨rfl, hb⟩
theorem extract_to (s : ByteArray) (k j : Nat) (h : k ≤ j) : (s.extract k j).toList = (s.toList.drop k).take (j - k) := by
  have := extract_take s k (j - k)
  rwa [show k + (j - k) = j by omega] at this

theorem kw_mem (m : Nat) (h : m < 13) : keyWords.getD m [] ∈ keyWords := by
  rw [List.getD_eq_getElem?_getD, List.getElem?_eq_getElem (show m < keyWords.length from h)]; exact List.getElem_mem _
theorem kind_key (u : Bs) (h : (u == [95]) = false) (hm : u ∈ keyWords) : wordKindL u = 5 := by
  unfold wordKindL; rw [if_neg (by simpa using h), if_pos hm]
theorem kind_name (u : Bs) (h : (u == [95]) = false) (hm : ∀ i, i < 13 → ¬ keyWords.getD i [] = u) : wordKindL u = 1 := by
  unfold wordKindL; rw [if_neg (by simpa using h), if_neg]
  intro hu
  obtain ⟨i, hi, e⟩ := List.getElem_of_mem hu
  exact hm i hi (by rw [List.getD_eq_getElem?_getD, List.getElem?_eq_getElem hi]; exact e)

set_option maxRecDepth 100000 in
set_option maxHeartbeats 4000000 in
theorem one_word (s : ByteArray) (k : Nat) (w : World) (hk : k < s.size) (hs : s.size ≤ 1000000) (h1 : (smallB (byt s k) || byt s k == 95) = true) :
    Calls Try.prog 78 #[.string s, .int .i64 k] w (OneOut s k w) := by
  have e1 := byt_eq s k hk
  have HT := hide (tokenL_word s k hk h1)
  have HR := hide (runL_at true s k hk)
  generalize byt s k = x at *
  have hn : nameB true x = true := by
    unfold nameB; revert h1; cases smallB x <;> simp
    intro h; simp [h]
  rw [if_pos hn] at HR
  have g2 : greatB x = false := by
    revert h1; unfold smallB greatB; simp; omega
  rcases (show smallB x = true ∨ (smallB x = false ∧ (x == 95) = true) by revert h1; cases smallB x <;> simp) with g1 | ⟨g1, g3⟩
  all_goals
    clear h1
    go_enter Try.func78, Try.ntmps78
    go_wp2_with (first | (go_at_call 79; refine (rsmall_any _ _).mono ?_; rintro e w' ⟨rfl, rfl⟩) | (go_at_call 80; refine (rgreat_any _ _).mono ?_; rintro e w' ⟨rfl, rfl⟩))
    go_loop [7] (fun v => ∃ j : Nat, k + 1 ≤ j ∧ j ≤ s.size ∧ v = .int .i64 j ∧ Hid (k + runL true (s.toList.drop k) = j + runL true (s.toList.drop j))) (fun v => s.size - (intOf v).toNat)
    case atStart => exact ⟨k + 1, Nat.le_refl _, by omega, by go_num, hide (by rw [HR.out]; omega)⟩
    case round =>
      obtain ⟨j, hkj, hj, rfl, HI⟩ := hrel
      by_cases hex : j < s.size ∧ nameB true (byt s j) = true
      · obtain ⟨hlt, hy⟩ := hex
        have e2 := byt_eq s j hlt
        have HS := hide (runL_at true s j hlt)
        generalize byt s j = y at *
        have HY := hide hy; clear hy
        rcases (show smallB y = true ∨ (smallB y = false ∧ greatB y = true) ∨ (smallB y = false ∧ greatB y = false ∧ digitB y = true) ∨ (smallB y = false ∧ greatB y = false ∧ digitB y = false ∧ (y == 95) = true) ∨ (smallB y = false ∧ greatB y = false ∧ digitB y = false ∧ (y == 95) = false ∧ (y == 39) = true) by
          have := HY.out; unfold nameB at this; revert this; cases smallB y <;> cases greatB y <;> cases digitB y <;> cases y == 95 <;> simp) with y1 | ⟨y1, y2⟩ | ⟨y1, y2, y3⟩ | ⟨y1, y2, y3, y4⟩ | ⟨y1, y2, y3, y4, y5⟩
        all_goals
          go_wp2_with (first | (go_at_call 79; refine (rsmall_any _ _).mono ?_; rintro e w' ⟨rfl, rfl⟩) | (go_at_call 80; refine (rgreat_any _ _).mono ?_; rintro e w' ⟨rfl, rfl⟩) | (go_at_call 81; refine (rdigit_any _ _).mono ?_; rintro e w' ⟨rfl, rfl⟩))
          go_round
          case rel => exact ⟨j + 1, by omega, by omega, by go_num, hide (by rw [HI.out, HS.out, if_pos HY.out]; omega)⟩
          case measure => simp [intOf]; omega
      · have HZ : Hid (k + runL true (s.toList.drop k) = j) := by
          refine hide ?_
          by_cases hlt : j < s.size
          · rw [HI.out, runL_at true s j hlt, if_neg (by simpa [hlt] using hex)]; rfl
          · rw [HI.out, runL_end true s j (by omega)]; rfl
        have HX := hide (extract_to s k j (by omega))
        rw [show j - k = runL true (s.toList.drop k) by have := HZ.out; omega] at HX
        have hout : j < s.size → smallB (byt s j) = false ∧ greatB (byt s j) = false ∧ digitB (byt s j) = false ∧ (byt s j == 95) = false ∧ (byt s j == 39) = false := by
          intro hlt
          have hy : nameB true (byt s j) = false := by simpa [hlt] using hex
          simpa [nameB, and_assoc] using hy
        clear hex HI
        by_cases hlt : j < s.size
        all_goals
          try (obtain ⟨y1, y2, y3, y4, y5⟩ := hout hlt; have e2 := byt_eq s j hlt)
          clear hout
          try generalize byt s j = y at *
          cases hu : ((s.extract k j).toList == [95])
          · go_wp2_with (first | (go_at_call 79; refine (rsmall_any _ _).mono ?_; rintro e w' ⟨rfl, rfl⟩) | (go_at_call 80; refine (rgreat_any _ _).mono ?_; rintro e w' ⟨rfl, rfl⟩) | (go_at_call 81; refine (rdigit_any _ _).mono ?_; rintro e w' ⟨rfl, rfl⟩) | (go_at_call 82; refine (words_any _).mono ?_; rintro e w1 ⟨rfl, hb1⟩))
            go_loop [10] (fun v => ∃ m : Nat, m ≤ 13 ∧ v = .int .i64 m ∧ Hid (∀ i, i < m → ¬ keyWords.getD i [] = (s.extract k j).toList)) (fun v => 13 - (intOf v).toNat)
            case atStart => exact ⟨0, by omega, rfl, hide (by intro i hi; omega)⟩
            case round =>
              obtain ⟨m, hm, rfl, HM⟩ := hrel
              have hbb := hb1.alloc hb1.size (.cells #[.string ⟨#[108, 101, 116]⟩, .string ⟨#[114, 101, 99]⟩, .string ⟨#[105, 110]⟩, .string ⟨#[102, 117, 110]⟩, .string ⟨#[105, 102]⟩, .string ⟨#[116, 104, 101, 110]⟩, .string ⟨#[101, 108, 115, 101]⟩, .string ⟨#[109, 97, 116, 99, 104]⟩, .string ⟨#[119, 105, 116, 104]⟩, .string ⟨#[116, 121, 112, 101]⟩, .string ⟨#[111, 102]⟩, .string ⟨#[116, 114, 117, 101]⟩, .string ⟨#[102, 97, 108, 115, 101]⟩] 128)
              by_cases hlt13 : m < 13
              · have hc := words_cell w1 128 m hlt13
                have HK := hide (kw_mem m hlt13)
                generalize hkv : keyWords.getD m [] = kv at *
                have HKV := hide hkv; clear hkv
                cases hkw : (kv == (s.extract k j).toList)
                · go_wp2
                  go_round
                  case rel => exact ⟨m + 1, by omega, by go_num, hide (by
                    intro i hi
                    rcases Nat.lt_succ_iff_lt_or_eq.1 hi with h | rfl
                    · exact HM.out i h
                    · rw [HKV.out]; simpa using hkw)⟩
                  case measure => simp [intOf]; omega
                · go_wp2
                  go_ret2
                  have hmem := HK.out
                  simp only [beq_iff_eq] at hkw
                  rw [hkw] at hmem
                  refine one_close (runL true (s.toList.drop k)) (by rw [HT.out, ← HX.out, kind_key _ hu hmem]) (by rw [HR.out]; omega) HZ.out hbb
              · go_wp2
                go_ret2
                have hnm := kind_name _ hu (fun i hi => HM.out i (by omega))
                refine one_close (runL true (s.toList.drop k)) (by rw [HT.out, ← HX.out, hnm]) (by rw [HR.out]; omega) HZ.out hbb
          · go_wp2_with (first | (go_at_call 79; refine (rsmall_any _ _).mono ?_; rintro e w' ⟨rfl, rfl⟩) | (go_at_call 80; refine (rgreat_any _ _).mono ?_; rintro e w' ⟨rfl, rfl⟩) | (go_at_call 81; refine (rdigit_any _ _).mono ?_; rintro e w' ⟨rfl, rfl⟩) | (go_at_call 82; refine (words_any _).mono ?_; rintro e w1 ⟨rfl, hb1⟩))
            go_ret2
            refine one_close (runL true (s.toList.drop k)) (by rw [HT.out, ← HX.out]; simp at hu; simp [wordKindL, hu]) (by rw [HR.out]; omega) HZ.out (Below.refl _ _)
set_option maxRecDepth 100000 in
set_option maxHeartbeats 4000000 in
theorem one_great (s : ByteArray) (k : Nat) (w : World) (hk : k < s.size) (hs : s.size ≤ 1000000) (h1 : (smallB (byt s k) || byt s k == 95) = false) (h2 : greatB (byt s k) = true) :
    Calls Try.prog 78 #[.string s, .int .i64 k] w (OneOut s k w) := by
  have e1 := byt_eq s k hk
  have HT := hide (tokenL_great s k hk h1 h2)
  have HR := hide (runL_at true s k hk)
  have HF := hide (drop_byt s k hk)
  generalize byt s k = x at *
  have hn : nameB true x = true := by
    unfold nameB; simp [h2]
  rw [if_pos hn] at HR
  obtain ⟨g1, g3⟩ : smallB x = false ∧ (x == 95) = false := by simpa using h1
  clear h1
  all_goals
    go_enter Try.func78, Try.ntmps78
    go_wp2_with (first | (go_at_call 79; refine (rsmall_any _ _).mono ?_; rintro e w' ⟨rfl, rfl⟩) | (go_at_call 80; refine (rgreat_any _ _).mono ?_; rintro e w' ⟨rfl, rfl⟩))
    go_loop [7] (fun v => ∃ j : Nat, k + 1 ≤ j ∧ j ≤ s.size ∧ v = .int .i64 j ∧ Hid (k + runL true (s.toList.drop k) = j + runL true (s.toList.drop j))) (fun v => s.size - (intOf v).toNat)
    case atStart => exact ⟨k + 1, Nat.le_refl _, by omega, by go_num, hide (by rw [HR.out]; omega)⟩
    case round =>
      obtain ⟨j, hkj, hj, rfl, HI⟩ := hrel
      by_cases hex : j < s.size ∧ nameB true (byt s j) = true
      · obtain ⟨hlt, hy⟩ := hex
        have e2 := byt_eq s j hlt
        have HS := hide (runL_at true s j hlt)
        generalize byt s j = y at *
        have HY := hide hy; clear hy
        rcases (show smallB y = true ∨ (smallB y = false ∧ greatB y = true) ∨ (smallB y = false ∧ greatB y = false ∧ digitB y = true) ∨ (smallB y = false ∧ greatB y = false ∧ digitB y = false ∧ (y == 95) = true) ∨ (smallB y = false ∧ greatB y = false ∧ digitB y = false ∧ (y == 95) = false ∧ (y == 39) = true) by
          have := HY.out; unfold nameB at this; revert this; cases smallB y <;> cases greatB y <;> cases digitB y <;> cases y == 95 <;> simp) with y1 | ⟨y1, y2⟩ | ⟨y1, y2, y3⟩ | ⟨y1, y2, y3, y4⟩ | ⟨y1, y2, y3, y4, y5⟩
        all_goals
          go_wp2_with (first | (go_at_call 79; refine (rsmall_any _ _).mono ?_; rintro e w' ⟨rfl, rfl⟩) | (go_at_call 80; refine (rgreat_any _ _).mono ?_; rintro e w' ⟨rfl, rfl⟩) | (go_at_call 81; refine (rdigit_any _ _).mono ?_; rintro e w' ⟨rfl, rfl⟩))
          go_round
          case rel => exact ⟨j + 1, by omega, by omega, by go_num, hide (by rw [HI.out, HS.out, if_pos HY.out]; omega)⟩
          case measure => simp [intOf]; omega
      · have HZ : Hid (k + runL true (s.toList.drop k) = j) := by
          refine hide ?_
          by_cases hlt : j < s.size
          · rw [HI.out, runL_at true s j hlt, if_neg (by simpa [hlt] using hex)]; rfl
          · rw [HI.out, runL_end true s j (by omega)]; rfl
        have HX := hide (extract_to s k j (by omega))
        rw [show j - k = runL true (s.toList.drop k) by have := HZ.out; omega] at HX
        have hout : j < s.size → smallB (byt s j) = false ∧ greatB (byt s j) = false ∧ digitB (byt s j) = false ∧ (byt s j == 95) = false ∧ (byt s j == 39) = false := by
          intro hlt
          have hy : nameB true (byt s j) = false := by simpa [hlt] using hex
          simpa [nameB, and_assoc] using hy
        clear hex HI
        by_cases hlt : j < s.size
        all_goals
          try (obtain ⟨y1, y2, y3, y4, y5⟩ := hout hlt; have e2 := byt_eq s j hlt)
          clear hout
          try generalize byt s j = y at *
          have hu : ((s.extract k j).toList == [95]) = false := by
            rw [HX.out, HR.out]
            obtain ⟨c, hc, e⟩ := HF.out
            rw [e, beq_eq_false_iff_ne, Nat.add_comm, List.take_succ_cons]
            intro e'
            injection e' with e' _
            subst e'
            rw [beq_eq_false_iff_ne] at g3
            exact g3 (by rw [← hc]; rfl)
          go_wp2_with (first | (go_at_call 79; refine (rsmall_any _ _).mono ?_; rintro e w' ⟨rfl, rfl⟩) | (go_at_call 80; refine (rgreat_any _ _).mono ?_; rintro e w' ⟨rfl, rfl⟩) | (go_at_call 81; refine (rdigit_any _ _).mono ?_; rintro e w' ⟨rfl, rfl⟩))
          go_ret2
          refine one_close (runL true (s.toList.drop k)) HT.out (by rw [HR.out]; omega) HZ.out (Below.refl _ _)

set_option maxRecDepth 100000 in
set_option maxHeartbeats 4000000 in
theorem one_digit (s : ByteArray) (k : Nat) (w : World) (hk : k < s.size) (hs : s.size ≤ 1000000) (h1 : (smallB (byt s k) || byt s k == 95) = false) (h2 : greatB (byt s k) = false) (h3 : digitB (byt s k) = true) :
    Calls Try.prog 78 #[.string s, .int .i64 k] w (OneOut s k w) := by
  have e1 := byt_eq s k hk
  have HT := hide (tokenL_digit s k hk h1 h2 h3)
  generalize byt s k = x at *
  obtain ⟨g1, g3⟩ : smallB x = false ∧ (x == 95) = false := by simpa using h1
  clear h1
  go_enter Try.func78, Try.ntmps78
  go_wp2_with (first | (go_at_call 79; refine (rsmall_any _ _).mono ?_; rintro e w' ⟨rfl, rfl⟩) | (go_at_call 80; refine (rgreat_any _ _).mono ?_; rintro e w' ⟨rfl, rfl⟩) | (go_at_call 81; refine (rdigit_any _ _).mono ?_; rintro e w' ⟨rfl, rfl⟩))
  go_loop [7] (fun v => ∃ j : Nat, k + 1 ≤ j ∧ j ≤ s.size ∧ v = .int .i64 j ∧ Hid (k + 1 + digL (s.toList.drop (k + 1)) = j + digL (s.toList.drop j))) (fun v => s.size - (intOf v).toNat)
  case atStart => exact ⟨k + 1, Nat.le_refl _, by omega, by go_num, rfl⟩
  case round =>
    obtain ⟨j, hkj, hj, rfl, HI⟩ := hrel
    by_cases hlt : j < s.size
    · have e2 := byt_eq s j hlt
      have HS := hide (digL_at s j hlt)
      generalize byt s j = y at *
      cases hy : digitB y
      · go_wp2_with (first | (go_at_call 79; refine (rsmall_any _ _).mono ?_; rintro e w' ⟨rfl, rfl⟩) | (go_at_call 80; refine (rgreat_any _ _).mono ?_; rintro e w' ⟨rfl, rfl⟩) | (go_at_call 81; refine (rdigit_any _ _).mono ?_; rintro e w' ⟨rfl, rfl⟩))
        go_ret2
        have h := HI.out
        rw [HS.out, if_neg (by simp [hy])] at h
        exact one_close _ HT.out (by omega) (by omega) (Below.refl _ _)
      · go_wp2_with (first | (go_at_call 79; refine (rsmall_any _ _).mono ?_; rintro e w' ⟨rfl, rfl⟩) | (go_at_call 80; refine (rgreat_any _ _).mono ?_; rintro e w' ⟨rfl, rfl⟩) | (go_at_call 81; refine (rdigit_any _ _).mono ?_; rintro e w' ⟨rfl, rfl⟩))
        go_round
        case rel => exact ⟨j + 1, by omega, by omega, by go_num, hide (by rw [HI.out, HS.out, if_pos hy]; omega)⟩
        case measure => simp [intOf]; omega
    · go_wp2_with (first | (go_at_call 79; refine (rsmall_any _ _).mono ?_; rintro e w' ⟨rfl, rfl⟩) | (go_at_call 80; refine (rgreat_any _ _).mono ?_; rintro e w' ⟨rfl, rfl⟩) | (go_at_call 81; refine (rdigit_any _ _).mono ?_; rintro e w' ⟨rfl, rfl⟩))
      go_ret2
      have h := HI.out
      rw [digL_end s j (by omega)] at h
      exact one_close _ HT.out (by omega) (by omega) (Below.refl _ _)

set_option maxRecDepth 100000 in
set_option maxHeartbeats 4000000 in
theorem one_tick (s : ByteArray) (k : Nat) (w : World) (hk : k < s.size) (hs : s.size ≤ 1000000) (h4 : byt s k = 39) (hlt1 : k + 1 < s.size) (h5 : smallB (byt s (k + 1)) = true) :
    Calls Try.prog 78 #[.string s, .int .i64 k] w (OneOut s k w) := by
  have e1 := byt_eq s k hk
  have HT := hide (tokenL_tick s k hk h4)
  rw [h4] at e1
  rw [h5, if_pos (by simpa using hlt1)] at HT
  clear h4
  have e3 := byt_eq s (k + 1) hlt1
  have HR := hide (runL_at false s (k + 1) hlt1)
  rw [if_pos (show nameB false (byt s (k + 1)) = true by unfold nameB; simp [h5])] at HR
  generalize byt s (k + 1) = z at *
  have g1 : smallB 39 = false := rfl
  have g2 : greatB 39 = false := rfl
  have g3 : digitB 39 = false := rfl
  go_enter Try.func78, Try.ntmps78
  go_wp2_with (first | (go_at_call 79; refine (rsmall_any _ _).mono ?_; rintro e w' ⟨rfl, rfl⟩) | (go_at_call 80; refine (rgreat_any _ _).mono ?_; rintro e w' ⟨rfl, rfl⟩) | (go_at_call 81; refine (rdigit_any _ _).mono ?_; rintro e w' ⟨rfl, rfl⟩))
  go_loop [7] (fun v => ∃ j : Nat, k + 1 ≤ j ∧ j ≤ s.size ∧ v = .int .i64 j ∧ Hid (k + 1 + runL false (s.toList.drop (k + 1)) = j + runL false (s.toList.drop j))) (fun v => s.size - (intOf v).toNat)
  case atStart => exact ⟨k + 1, Nat.le_refl _, by omega, by go_num, rfl⟩
  case round =>
    obtain ⟨j, hkj, hj, rfl, HI⟩ := hrel
    clear e3
    by_cases hlt : j < s.size
    · have e2 := byt_eq s j hlt
      have HS := hide (runL_at false s j hlt)
      generalize byt s j = y at *
      cases hy : nameB false y
      · obtain ⟨y1, y2, y3, y4⟩ : smallB y = false ∧ greatB y = false ∧ digitB y = false ∧ (y == 95) = false := by
          simpa [nameB, and_assoc] using hy
        have HY := hide hy; clear hy
        go_wp2_with (first | (go_at_call 79; refine (rsmall_any _ _).mono ?_; rintro e w' ⟨rfl, rfl⟩) | (go_at_call 80; refine (rgreat_any _ _).mono ?_; rintro e w' ⟨rfl, rfl⟩) | (go_at_call 81; refine (rdigit_any _ _).mono ?_; rintro e w' ⟨rfl, rfl⟩))
        go_ret2
        have h := HI.out
        rw [HS.out, if_neg (by simp [HY.out])] at h
        exact one_close _ HT.out (by omega) (by omega) (Below.refl _ _)
      · have HY := hide hy; clear hy
        rcases (show smallB y = true ∨ (smallB y = false ∧ greatB y = true) ∨ (smallB y = false ∧ greatB y = false ∧ digitB y = true) ∨ (smallB y = false ∧ greatB y = false ∧ digitB y = false ∧ (y == 95) = true) by
          have := HY.out; unfold nameB at this; revert this; cases smallB y <;> cases greatB y <;> cases digitB y <;> cases y == 95 <;> simp) with y1 | ⟨y1, y2⟩ | ⟨y1, y2, y3⟩ | ⟨y1, y2, y3, y4⟩
        all_goals
          go_wp2_with (first | (go_at_call 79; refine (rsmall_any _ _).mono ?_; rintro e w' ⟨rfl, rfl⟩) | (go_at_call 80; refine (rgreat_any _ _).mono ?_; rintro e w' ⟨rfl, rfl⟩) | (go_at_call 81; refine (rdigit_any _ _).mono ?_; rintro e w' ⟨rfl, rfl⟩))
          go_round
          case rel => exact ⟨j + 1, by omega, by omega, by go_num, hide (by rw [HI.out, HS.out, if_pos HY.out]; omega)⟩
          case measure => simp [intOf]; omega
    · go_wp2_with (first | (go_at_call 79; refine (rsmall_any _ _).mono ?_; rintro e w' ⟨rfl, rfl⟩) | (go_at_call 80; refine (rgreat_any _ _).mono ?_; rintro e w' ⟨rfl, rfl⟩) | (go_at_call 81; refine (rdigit_any _ _).mono ?_; rintro e w' ⟨rfl, rfl⟩))
      go_ret2
      have h := HI.out
      rw [runL_end false s j (by omega)] at h
      exact one_close _ HT.out (by omega) (by omega) (Below.refl _ _)

end Go.Proofs.Ytafpbdmggnfdnaa
