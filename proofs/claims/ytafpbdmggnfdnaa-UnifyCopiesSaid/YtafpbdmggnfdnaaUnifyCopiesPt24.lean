/- Part 24 of the proof of UnifyCopies: what follows was kept as these texts: TwoCopy, LawBase, SameInts, AliveWalk, LawTypes. -/
import Derived.Test.YtafpbdmggnfdnaaUnifyCopiesPt1
import Derived.Test.YtafpbdmggnfdnaaUnifyCopiesPt2
import Derived.Test.YtafpbdmggnfdnaaUnifyCopiesPt3
import Derived.Test.YtafpbdmggnfdnaaUnifyCopiesPt4
import Derived.Test.YtafpbdmggnfdnaaUnifyCopiesPt5
import Derived.Test.YtafpbdmggnfdnaaUnifyCopiesPt6
import Derived.Test.YtafpbdmggnfdnaaUnifyCopiesPt7
import Derived.Test.YtafpbdmggnfdnaaUnifyCopiesPt8
import Derived.Test.YtafpbdmggnfdnaaUnifyCopiesPt9
import Derived.Test.YtafpbdmggnfdnaaUnifyCopiesPt10
import Derived.Test.YtafpbdmggnfdnaaUnifyCopiesPt11
import Derived.Test.YtafpbdmggnfdnaaUnifyCopiesPt12
import Derived.Test.YtafpbdmggnfdnaaUnifyCopiesPt13
import Derived.Test.YtafpbdmggnfdnaaUnifyCopiesPt14
import Derived.Test.YtafpbdmggnfdnaaUnifyCopiesPt15
import Derived.Test.YtafpbdmggnfdnaaUnifyCopiesPt16
import Derived.Test.YtafpbdmggnfdnaaUnifyCopiesPt17
import Derived.Test.YtafpbdmggnfdnaaUnifyCopiesPt18
import Derived.Test.YtafpbdmggnfdnaaUnifyCopiesPt19
import Derived.Test.YtafpbdmggnfdnaaUnifyCopiesPt20
import Derived.Test.YtafpbdmggnfdnaaUnifyCopiesPt21
import Derived.Test.YtafpbdmggnfdnaaUnifyCopiesPt22
import Derived.Test.YtafpbdmggnfdnaaUnifyCopiesPt23
import Derived.Deep.QuietTactic
import Derived.BigQuiet
/- Both stores asked for copies. -/
namespace Go.Proofs.Ytafpbdmggnfdnaa
open Go.RowKit
set_option linter.unusedVariables false

/-- A row of one's own with these numbers. -/
def OwnInts (w : World) (xs : List Int) (e : Ending) (w' : World) : Prop :=
  ∃ A c, e = .returned (.slice A xs.length c) ∧ w'.ownsRow w.heap.size 3 1 (.slice A xs.length c) xs.length (xs.map (Value.int .i64)) ∧ Below w.heap.size w w'
set_option maxHeartbeats 1000000 in
theorem copyInts_own (A : Option Addr) (c : Nat) (xs : List Int) (w : World) (h : Ints w A xs) (hl : xs.length ≤ 1000000) : Calls Try.prog 16 #[.slice A xs.length c] w (OwnInts w xs) := by
  obtain ⟨i1, ki, kz0, kz1, kz2⟩ := info_parts intInfo
  have Ki := hide ki; have Kz0 := hide kz0; have Kz1 := hide kz1; have Kz2 := hide kz2
  clear ki kz0 kz1 kz2
  have HO := hide (World.ownsRow_made (base := w.heap.size) (e := 3) (size := 1) w #[] 0 (Nat.le_refl _) (Nat.zero_le _) rfl)
  rcases A with _ | a
  · have hx : xs = [] := by
      rcases xs with _ | ⟨x, xs⟩
      · rfl
      · obtain ⟨b, off, e, _⟩ := h (by simp); cases e
    subst hx
    go_enter Try.func16, Try.ntmps16
    go_wp2_with (at_builtin; refine wpList_append_nothing rfl (.tmp 5) (.tmp 6) 30 rfl w.heap.size 3 i1 1 Try.underlying30 Ki.out (.slice (some ⟨w.heap.size, 0, none⟩) 0 0) 0 [] rfl HO.out c rfl ?_)
    go_ret
    exact ⟨_, 0, rfl, HO.out, (Below.refl _ _).alloc (Nat.le_refl _) _⟩
  · have HC := hide (ints_cells h 3)
    have H1 : Hid (∀ u ∈ xs.map (Value.int .i64), u.oneCell' = true) := hide (ints_oneCell .i64 xs)
    go_enter Try.func16, Try.ntmps16
    go_wp2_with (at_builtin; refine wpList_append_own _ rfl (.tmp 5) (.tmp 6) 30 rfl w.heap.size 3 i1 (.int .i64 0) 1 8 Try.underlying30 Ki.out Kz0.out Kz1.out Kz2.out rfl (by decide) (.slice (some ⟨w.heap.size, 0, none⟩) 0 0) 0 [] rfl HO.out a xs.length c (xs.map (Value.int .i64)) rfl (by simp) HC.out H1.out (by unfold maxLen; omega) (by omega) (by simp) ?_; intro v' w1 hown hgrow hnil)
    go_ret
    simp only [Nat.zero_add, List.nil_append] at hown
    obtain ⟨A', c', rfl, hI, hB⟩ := ints_of_own hown
    exact ⟨A', c', rfl, hown, ((Below.refl w.heap.size w).alloc (Nat.le_refl _) _).grown hgrow (by simp) (by intro k hk; simp [Value.ownBlock] at hk; omega)⟩
theorem Live.wide {M M2 : Nat → Prop} {g : Nat} {N : List Nd} {c : Nat → Nat} {w : World} (h : Live M g N c w) (hM : ∀ b, M b → M2 b) (hl : ∀ b, M2 b → b < w.heap.size) : Live M2 g N c w := by
  obtain ⟨⟨L, S, d, h1, h2, h3, h4, h5, h6⟩, h7⟩ := h
  exact ⟨⟨L, S, d, h1, h2, h3, h4, fun b hb => hM b (h5 b hb), fun i a ha x hx => hM _ (h6 i a ha x hx)⟩, hl⟩
/-- The error of a Copy. -/
inductive CpErr (N : List Nd) (c : Nat → Nat) (n : Int) (xs : List Int) : Int → Prop where
  | keep (h : allIn N.length xs = false) : CpErr N c n xs 221
  | node (h : allIn N.length xs = true) (hn : inB N.length n = false) : CpErr N c n xs 221
  | big (h : allIn N.length xs = true) (hn : inB N.length n = true) (T : Fo) (hT : TreeOf N c [n.toNat] T) (hb : 300 < T.cnt) : CpErr N c n xs 120
theorem CpErr.ne {N : List Nd} {c : Nat → Nat} {n : Int} {xs : List Int} {err : Int} (h : CpErr N c n xs err) : err ≠ 0 := by cases h <;> decide
theorem CpErr.same {N : List Nd} {c c' : Nat → Nat} (h : ClsOk N c) (h' : ClsOk N c') (hs : SameC N c c') {n : Int} {xs : List Int} {err : Int} (k : CpErr N c n xs err) : CpErr N c' n xs err := by
  cases k with
  | keep ha => exact .keep ha
  | node ha hn => exact .node ha hn
  | big ha hn T hT hb =>
    have hi : ∀ x ∈ [n.toNat], x < N.length := by simpa using (inB_nat hn).2
    obtain ⟨T', hT'⟩ := h'.trees [n.toNat] hi
    exact .big ha hn T' hT' (by rw [(tree_same h.wf h.closed hs h.roots hi hT hT').1]; exact hb)
/-- Either an error, or all is known and fit. -/
theorem CpErr.ex {N : List Nd} {c : Nat → Nat} (h : ClsOk N c) (n : Int) (xs : List Int) : (∃ err, CpErr N c n xs err) ∨ (allIn N.length xs = true ∧ inB N.length n = true ∧ ∃ T, TreeOf N c [n.toNat] T ∧ T.cnt ≤ 300) := by
  cases ha : allIn N.length xs
  · exact .inl ⟨_, .keep ha⟩
  · cases hn : inB N.length n
    · exact .inl ⟨_, .node ha hn⟩
    · obtain ⟨T, hT⟩ := h.trees [n.toNat] (by simpa using (inB_nat hn).2)
      by_cases hb : T.cnt ≤ 300
      · exact .inr ⟨rfl, rfl, T, hT, hb⟩
      · exact .inl ⟨_, .big ha hn T hT (by omega)⟩
section
variable {K : Nat → Prop} {w0 w w' : World} {g : Nat} {N N' : List Nd} {c c' : Nat → Nat} {v : Value}
theorem two_copy_no (h : Two K w0 g N c v N' c' w) (n : Int) (A : Option Addr) (cap : Nat) (xs : List Int) (hA : Ints w A xs) (hl : xs.length ≤ 1000) (err : Int) (he : CpErr N c n xs err) :
    Calls Try.prog 28 #[.pointer (some ⟨g, 0, none⟩), .int .i64 n, .slice A xs.length cap] w (CopyNo w err) := by
  obtain ⟨⟨M, M', h1, h2, h3, h4⟩, h5, h6⟩ := h
  obtain ⟨Wr, Rd, hf, -⟩ := h1.fine
  cases he with
  | keep ha => exact copy_no hf n A cap xs hA (by omega) (.inr ha)
  | node ha hn => exact copy_no hf n A cap xs hA (by omega) (.inl hn)
  | big ha hn T hT hb =>
    have hnn := inB_nat hn
    have := copy_big hf n.toNat hnn.2 A cap xs hA (by omega) ha T hT hb
    rwa [← hnn.1] at this
theorem twor_copy_no (h : Two K w0 g N c v N' c' w) (n : Int) (A : Option Addr) (cap : Nat) (xs : List Int) (hA : Ints w A xs) (hl : xs.length ≤ 1000) (err : Int) (he : CpErr N' c' n xs err) :
    Calls Try.prog 29 #[.agg #[v], .int .i64 n, .slice A xs.length cap] w (RCopyNo w v err) := by
  obtain ⟨⟨M, M', h1, h2, h3, h4⟩, h5, h6⟩ := h
  have htr := fun (is : List Nat) (T : Fo) hi hT => h2.tree (is := is) (T := T) hi hT
  obtain ⟨⟨ad, R, d, k1, rfl, k4, k5, k6⟩, k7⟩ := h2
  refine rcopy_no k1 k4.inv n A cap xs hA (by omega) err ?_
  cases he with
  | keep ha => exact .inl ⟨ha, rfl⟩
  | node ha hn => exact .inr (.inl ⟨ha, hn, rfl⟩)
  | big ha hn T hT hb => exact .inr (.inr ⟨ha, hn, rfl, T, htr _ _ (by simpa using (inB_nat hn).2) hT, hb⟩)
def TwoCopied (K : Nat → Prop) (w0 : World) (g : Nat) (N : List Nd) (c : Nat → Nat) (v : Value) (N' : List Nd) (c' : Nat → Nat) (w : World) (T U : Fo) (e : Ending) (w' : World) : Prop :=
  ∃ (a : Nat) (N1 : List Nd) (c1 : Nat → Nat), e = .returned (.tuple #[.int .i64 (a : Int), .int .i64 0]) ∧ Grown N c N1 c1 ∧ a < N1.length ∧ TreeOf N1 c1 [a] (T.mapv (sgOf N.length (newL T U))) ∧ Two K w0 g N1 c1 v N' c' w' ∧ Keeps K w w'
theorem two_copy (h : Two K w0 g N c v N' c' w) (n : Nat) (hn : n < N.length) (A : Option Addr) (cap : Nat) (ks : List Nat) (hA : Nats w A ks) (hks : ∀ x ∈ ks, x < N.length) (hkl : ks.length ≤ 1000) (hnl : N.length ≤ 1000) (T U : Fo) (hT : TreeOf N c [n] T) (hU : TreeOf N c ks U) (hTc : T.cnt ≤ 300) :
    Calls Try.prog 28 #[.pointer (some ⟨g, 0, none⟩), .int .i64 (n : Int), .slice A ks.length cap] w (TwoCopied K w0 g N c v N' c' w T U) := by
  obtain ⟨⟨M, M', h1, h2, h3, h4⟩, h5, h6⟩ := h
  obtain ⟨Wr, Rd, hf, hWR⟩ := h1.fine
  refine (copy_any hf n hn A cap ks hA hks hkl hnl T U hT hU hTc).mono ?_
  rintro e w' ⟨a, Wr1, Rd1, N1, c1, rfl, hc⟩
  have ho : Only M w w' := hc.only.mono fun b _ hb => hWR b (.inl hb)
  have hz := ho.size
  have k1 : Live (more M w w') g N1 c1 w' := hc.live.live.wide (fun b hb => by
    rcases hb with hb | hb
    · rcases hc.wok b hb with h | h
      · exact .inl (hWR b (.inl h))
      · exact .inr h
    · rcases hc.rok b hb with h | h
      · exact .inl (hWR b (.inr h))
      · exact .inr h) (fun b hb => by
    rcases hb with hb | hb
    · have := h1.lt b hb; omega
    · exact hb.2)
  exact ⟨a, N1, c1, rfl, hc.grown, hc.lt, hc.tree, two_prog h1 h2 h3 h4 h5 h6 k1 ho⟩
def TworCopied (K : Nat → Prop) (w0 : World) (g : Nat) (N : List Nd) (c : Nat → Nat) (N' : List Nd) (c' : Nat → Nat) (w : World) (T U : Fo) (e : Ending) (w' : World) : Prop :=
  ∃ (v1 : Value) (b : Nat) (N2 : List Nd) (c2 : Nat → Nat), e = .returned (.tuple #[.agg #[v1], .int .i64 (b : Int), .int .i64 0]) ∧ Grown N' c' N2 c2 ∧ b < N2.length ∧ TreeOf N2 c2 [b] (T.mapv (sgOf N'.length (newL T U))) ∧ Two K w0 g N c v1 N2 c2 w' ∧ Keeps K w w'
theorem twor_copy (h : Two K w0 g N c v N' c' w) (n : Nat) (hn : n < N'.length) (A : Option Addr) (cap : Nat) (ks : List Nat) (hA : Nats w A ks) (hAK : ∀ x, A = some x → K x.block) (hks : ∀ x ∈ ks, x < N'.length) (hkl : ks.length ≤ 1000) (hnl : N'.length ≤ 1000) (T U : Fo) (hT : TreeOf N' c' [n] T) (hU : TreeOf N' c' ks U) (hTc : T.cnt ≤ 300) :
    Calls Try.prog 29 #[.agg #[v], .int .i64 (n : Int), .slice A ks.length cap] w (TworCopied K w0 g N c N' c' w T U) := by
  obtain ⟨⟨M, M', h1, h2, h3, h4⟩, h5, h6⟩ := h
  refine (rcopy_any h2 n hn A cap ks hA (fun x hx hm => (h4 _ (.inr hm)).2 (hAK x hx)) hks hkl hnl T U hT hU hTc).mono ?_
  rintro e w' ⟨v1, b, N2, c2, rfl, k1, k2, k3, k4, k5, k6, k7⟩
  exact ⟨v1, b, N2, c2, rfl, k2, k5, k6, two_ref h1 h2 h3 h4 h5 h6 k1 k7⟩
end
end Go.Proofs.Ytafpbdmggnfdnaa

/- cut, great. -/
namespace Go.Proofs.Ytafpbdmggnfdnaa
open Go.RowKit
set_option linter.unusedVariables false

theorem OpsAt.take {w : World} {A : Option Addr} {ops : List OpV} (h : OpsAt w A ops) (n : Nat) : OpsAt w A (ops.take n) := by
  intro hne
  obtain ⟨b, off, e, hb, hc⟩ := h (by intro e; subst e; simp at hne)
  refine ⟨b, off, e, hb, fun k hk => ?_⟩
  have hk' : k < ops.length := by simp at hk; omega
  have := hc k hk'
  simpa using this
theorem OpsAt.drewN {w : World} {A : Option Addr} {ops : List OpV} (h : OpsAt w A ops) (n : Nat) : OpsAt (w.drewN n) A ops := h
def weight (ops : List OpV) : Nat := (ops.map fun o => o.args.length + o.name.size / 16).sum
theorem weight_fit {ops : List OpV} (hl : ops.length ≤ 60) (hw : weight ops ≤ 500) : OpsFit ops := by
  refine ⟨hl, fun o ho => ?_⟩
  have : o.args.length + o.name.size / 16 ≤ weight ops := by
    clear hl hw
    unfold weight
    induction ops with
    | nil => simp at ho
    | cons p ops ih =>
      rw [List.map_cons, List.sum_cons]
      rcases List.mem_cons.1 ho with rfl | ho
      · omega
      · have := ih ho; omega
  omega
theorem weight_snoc (ops : List OpV) (k : Nat) (hk : k < ops.length) : weight (ops.take (k + 1)) = weight (ops.take k) + (ops[k].args.length + ops[k].name.size / 16) := by
  unfold weight
  rw [List.take_succ_eq_append_getElem hk, List.map_append, List.sum_append]; simp
/-- A script as it is handed in: lengths that can be. -/
def OpsLen (ops : List OpV) : Prop := ops.length ≤ 140737488351232 ∧ ∀ o ∈ ops, o.args.length ≤ 140737488351232 ∧ o.name.size ≤ 140737488351232
set_option maxRecDepth 100000 in
set_option maxHeartbeats 1000000 in
theorem cut_any (w : World) (A : Option Addr) (cap : Nat) (ops : List OpV) (hA : OpsAt w A ops) (hl : OpsLen ops) (hcap : ops.length ≤ cap) :
    Calls Try.prog 10 #[.slice A ops.length cap] w fun e w' => e = .returned (.slice A (ops.take 60).length cap) ∧ w = w' := by
  have h1 := hl.1
  clear hl
  by_cases h : 60 < ops.length
  · have k1 : decide ((60 : Int) < (ops.length : Int)) = true := by simp; omega
    obtain ⟨b, off, rfl, -⟩ := hA (by intro e; rw [e] at h; exact absurd h (by decide))
    have hsl := fun W => run_slice_h (P := Try.prog) W 22 (some ⟨b, off, none⟩) ops.length cap Try.underlying22 .i64 (60 : Int) (by omega) (by omega)
    have HL2 : Hid ((ops.take 60).length = 60) := hide (by rw [List.length_take]; omega)
    go_enter Try.func10, Try.ntmps10
    go_wp2
    go_ret
    exact ⟨by rw [HL2.out]; rfl, rfl⟩
  · have k1 : decide ((60 : Int) < (ops.length : Int)) = false := by simp; omega
    have HL2 : Hid ((ops.take 60).length = ops.length) := hide (by rw [List.length_take]; omega)
    go_enter Try.func10, Try.ntmps10
    go_wp2
    go_ret
    exact ⟨by rw [HL2.out]; rfl, rfl⟩
def heavyB (ops : List OpV) : Bool := decide (500 < weight ops)
set_option maxRecDepth 100000 in
set_option maxHeartbeats 2000000 in
theorem heavy_any (w : World) (A : Option Addr) (cap : Nat) (ops : List OpV) (hA : OpsAt w A ops) (hl : OpsLen ops) (h60 : ops.length ≤ 60) :
    Calls Try.prog 11 #[.slice A ops.length cap] w fun e w' => e = .returned (.bool (heavyB ops)) ∧ Below w.heap.size w w' := by
  have HA := hide hA; have HL := hide hl
  clear hA hl
  go_enter Try.func11, Try.ntmps11
  go_wp2
  go_loopw [3, 4] (fun vn vi wr => ∃ (k n : Nat), vi = .int .i64 k ∧ vn = .int .i64 n ∧ k ≤ ops.length ∧ n ≤ k * 1000000000000000 ∧ Hid (n = weight (ops.take k)) ∧ Hid (Below w.heap.size w wr)) (fun _ vi _ => ops.length - (intOf vi).toNat)
  case atStart => exact ⟨0, 0, rfl, rfl, by omega, by omega, hide rfl, hide (Below.refl _ _)⟩
  case round =>
    obtain ⟨k, n, rfl, rfl, hk, hn, HN, HB⟩ := hrel
    by_cases hlt : k < ops.length
    · obtain ⟨b, off, rfl, hb, d0, d1, d2, -⟩ := HA.out.at_ k hlt
      have hfit := HL.out.2 ops[k] (List.getElem_mem hlt)
      have Hw := hide (weight_snoc ops k hlt)
      obtain ⟨o, ho⟩ : ∃ o, ops[k] = o := ⟨_, rfl⟩
      rw [ho] at d0 d1 d2 hfit Hw
      have e1 := (HB.out.cell (p := ⟨b, off + k * 3 + 1, none⟩) hb).trans d1
      have e2 := (HB.out.cell (p := ⟨b, off + k * 3 + 2, none⟩) hb).trans d2
      have hal := hfit.1; have hnl := hfit.2
      clear d0 d1 d2 hfit ho
      obtain ⟨q, hq⟩ : ∃ q, o.name.size / 16 = q := ⟨_, rfl⟩
      have hql : q ≤ o.name.size := by omega
      rw [hq] at Hw
      have j0 : (o.name.size : Int).tdiv 16 = (q : Int) := by rw [← hq]; rw [Int.tdiv_eq_ediv_of_nonneg (by omega)]; omega
      have j1 : IntKind.i64.wrap (q : Int) = (q : Int) := IntWalk.i64_in _ (by omega)
      have j2 : IntKind.i64.wrap ((o.args.length : Int) + (q : Int)) = (o.args.length : Int) + (q : Int) := IntWalk.i64_in _ (by omega)
      have j3 : IntKind.i64.wrap ((n : Int) + ((o.args.length : Int) + (q : Int))) = (n : Int) + ((o.args.length : Int) + (q : Int)) := IntWalk.i64_in _ (by omega)
      have j4 : (k : Int) < (ops.length : Int) := by omega
      have j5 : (0 : Int) ≤ (k : Int) := by omega
      clear hq
      go_wp2
      go_quiet (fail)
      have Hb2 := hide (below_drewN HB.out nq)
      clear j0 j1 j2 j3 j4 j5 e1 e2
      go_wp2
      go_roundw
      case measure => simp [intOf]; omega
      case rel => exact ⟨k + 1, n + (o.args.length + q), by go_num, by go_num, by omega, by omega, hide (by rw [Hw.out, HN.out]), Hb2⟩
    · obtain rfl : k = ops.length := by omega
      have HG : Hid (heavyB ops = decide (500 < n)) := hide (by unfold heavyB; rw [HN.out, List.take_of_length_le (Nat.le_refl _)])
      go_wp2
      go_ret
      exact ⟨ret_bool (by rw [HG.out]; simp; omega), HB.out⟩
end Go.Proofs.Ytafpbdmggnfdnaa

/- SameInts of the same numbers. -/
namespace Go.Proofs.Ytafpbdmggnfdnaa
open Go.RowKit
set_option linter.unusedVariables false

set_option maxRecDepth 100000 in
set_option maxHeartbeats 1000000 in
theorem sameInts_any (w : World) (A B : Option Addr) (c d : Nat) (xs : List Int) (hA : Ints w A xs) (hB : Ints w B xs) (hl : xs.length ≤ 1000000) :
    Calls Try.prog 22 #[.slice A xs.length c, .slice B xs.length d] w fun e w' => e = .returned (.bool true) ∧ ∃ n, w' = w.drewN n := by
  have HA := hide hA; have HB := hide hB
  clear hA hB
  go_enter Try.func22, Try.ntmps22
  go_wp2
  go_loopw [5] (fun vi wr => ∃ k q : Nat, vi = .int .i64 k ∧ k ≤ xs.length ∧ wr = w.drewN q) (fun vi _ => xs.length - (intOf vi).toNat)
  case atStart => exact ⟨0, 0, rfl, by omega, rfl⟩
  case round =>
    obtain ⟨k, q, rfl, hk, rfl⟩ := hrel
    by_cases hlt : k < xs.length
    · obtain ⟨b, off, rfl, hb, d0⟩ := HA.out.at_ k hlt
      obtain ⟨b', off', rfl, hb', d1⟩ := HB.out.at_ k hlt
      obtain ⟨x, hx⟩ : ∃ x, xs[k] = x := ⟨_, rfl⟩
      rw [hx] at d0 d1
      have d0' : (w.drewN q).cell? ⟨b, off + k, none⟩ = some (.int .i64 x) := d0
      have d1' : (w.drewN q).cell? ⟨b', off' + k, none⟩ = some (.int .i64 x) := d1
      have j1 : (k : Int) < (xs.length : Int) := by omega
      have j2 : (0 : Int) ≤ (k : Int) := by omega
      obtain ⟨W1, hW1⟩ : ∃ W1, w.drewN q = W1 := ⟨_, rfl⟩
      rw [hW1] at d0' d1'
      simp only [hW1]
      have HW1 := hide hW1
      clear hx hW1 d0 d1
      go_wp2
      go_quiet (fail)
      go_wp2
      go_roundw
      case measure => simp [intOf]; omega
      case rel => exact ⟨k + 1, q + nq, by go_num, by omega, by rw [← HW1.out]; simp [World.drewN, Nat.add_assoc]⟩
    · obtain rfl : k = xs.length := by omega
      go_wp2
      go_ret
      exact ⟨rfl, q, rfl⟩
end Go.Proofs.Ytafpbdmggnfdnaa

/- alive answers true. -/
namespace Go.Proofs.Ytafpbdmggnfdnaa
open Go.RowKit
set_option linter.unusedVariables false

theorem only_low {M : Nat → Prop} {B : Nat} {w0 w w' : World} (hb : Below B w0 w) (ho : Only M w w') (hB : B ≤ w.heap.size) (hM : ∀ b, M b → B ≤ b) : Below B w0 w' := Only.below_trans hb ho (fun b _ h => hM b h) hB
theorem more_low {M : Nat → Prop} {B : Nat} {w w' : World} (hB : B ≤ w.heap.size) (hM : ∀ b, M b → B ≤ b) : ∀ b, more M w w' b → B ≤ b := by
  rintro b (h | h)
  · exact hM b h
  · omega
/-- A store that is new since w0. -/
structure Own (w0 : World) (g : Nat) (N : List Nd) (c : Nat → Nat) (w : World) : Prop where
  out : ∃ M, Live M g N c w ∧ ∀ b, M b → w0.heap.size ≤ b
  below : Below w0.heap.size w0 w
section
variable {w0 w : World} {g : Nat} {N : List Nd} {c : Nat → Nat}
theorem Own.keep (h : Own w0 g N c w) {w' : World} (hb : Below w.heap.size w w') : Own w0 g N c w' := by
  obtain ⟨⟨M, h1, h2⟩, h3⟩ := h
  exact ⟨⟨M, h1.below hb, h2⟩, h3.trans (hb.mono h3.size)⟩
theorem own_new (w0 w : World) (h : Below w0.heap.size w0 w) : Calls Try.prog 25 #[] w fun e w' => e = .returned (.pointer (some ⟨w.heap.size, 0, none⟩)) ∧ Own w0 w.heap.size [] (fun i => i) w' := by
  refine (live_new w).mono ?_
  rintro e w' ⟨rfl, h1, h2⟩
  exact ⟨rfl, ⟨_, h1, fun b hb => by rw [hb]; exact h.size⟩, h.trans (h2.mono h.size)⟩
theorem own_var (h : Own w0 g N c w) (hm : N.length + 1 ≤ 1000000) : Calls Try.prog 26 #[.pointer (some ⟨g, 0, none⟩)] w fun e w' => e = .returned (.int .i64 (N.length : Int)) ∧ Own w0 g (N ++ [varNd]) (addC N.length c) w' := by
  obtain ⟨⟨M, h1, h2⟩, h3⟩ := h
  refine (live_var h1 hm).mono ?_
  rintro e w' ⟨rfl, k1, k2⟩
  exact ⟨rfl, ⟨_, k1, more_low h3.size h2⟩, only_low h3 k2 h3.size h2⟩
def OwnMade (w0 : World) (g : Nat) (N : List Nd) (c : Nat → Nat) (kind : Int) (name : ByteArray) (xs : List Int) (e : Ending) (w' : World) : Prop :=
  e = .returned (.tuple #[.int .i64 (makeV N kind name xs), .int .i64 (makeErr N.length kind name xs)]) ∧ Own w0 g (makeN N kind name xs) (makeC N c kind name xs) w'
theorem own_con (h : Own w0 g N c w) (name : ByteArray) (A : Option Addr) (cap : Nat) (xs : List Int) (hx : Ints w A xs) (hl : xs.length ≤ 1000000) (hs : name.size ≤ 1000000) (hm : N.length + 1 ≤ 1000000) :
    Calls Try.prog 30 #[.pointer (some ⟨g, 0, none⟩), .string name, .slice A xs.length cap] w (OwnMade w0 g N c 2 name xs) := by
  obtain ⟨⟨M, h1, h2⟩, h3⟩ := h
  refine (live_con h1 name A cap xs hx hl hs hm).mono ?_
  rintro e w' ⟨rfl, k1, k2⟩
  exact ⟨rfl, ⟨_, k1, more_low h3.size h2⟩, only_low h3 k2 h3.size h2⟩
theorem own_pair (h : Own w0 g N c w) (A : Option Addr) (cap : Nat) (xs : List Int) (hx : Ints w A xs) (hl : xs.length ≤ 1000000) (hm : N.length + 1 ≤ 1000000) :
    Calls Try.prog 27 #[.pointer (some ⟨g, 0, none⟩), .slice A xs.length cap] w (OwnMade w0 g N c 3 ByteArray.empty xs) := by
  obtain ⟨⟨M, h1, h2⟩, h3⟩ := h
  refine (live_pair h1 A cap xs hx hl hm).mono ?_
  rintro e w' ⟨rfl, k1, k2⟩
  exact ⟨rfl, ⟨_, k1, more_low h3.size h2⟩, only_low h3 k2 h3.size h2⟩
theorem own_arrow (h : Own w0 g N c w) (a b : Int) (hm : N.length + 1 ≤ 1000000) :
    Calls Try.prog 31 #[.pointer (some ⟨g, 0, none⟩), .int .i64 a, .int .i64 b] w (OwnMade w0 g N c 4 ByteArray.empty [a, b]) := by
  obtain ⟨⟨M, h1, h2⟩, h3⟩ := h
  refine (live_arrow h1 a b hm).mono ?_
  rintro e w' ⟨rfl, k1, k2⟩
  exact ⟨rfl, ⟨_, k1, more_low h3.size h2⟩, only_low h3 k2 h3.size h2⟩
theorem own_len_ (h : Own w0 g N c w) : Calls Try.prog 32 #[.pointer (some ⟨g, 0, none⟩)] w fun e w' => e = .returned (.int .i64 (N.length : Int)) ∧ w = w' := by
  obtain ⟨⟨M, h1, h2⟩, h3⟩ := h
  exact live_len h1
theorem own_unify (h : Own w0 g N c w) (a b : Int) : Calls Try.prog 23 #[.pointer (some ⟨g, 0, none⟩), .int .i64 a, .int .i64 b] w fun e w' => ∃ err c', e = .returned (.int .i64 err) ∧ UniSaid N c a b err c' ∧ Own w0 g N c' w' := by
  obtain ⟨⟨M, h1, h2⟩, h3⟩ := h
  refine (live_unify h1 a b).mono ?_
  rintro e w' ⟨err, c', rfl, k0, k1, k2⟩
  exact ⟨err, c', rfl, k0, ⟨M, k1, h2⟩, only_low h3 k2 h3.size h2⟩
theorem own_alike (h : Own w0 g N c w) (a b : Nat) (ha : a < N.length) (hb : b < N.length) : Calls Try.prog 19 #[.pointer (some ⟨g, 0, none⟩), .int .i64 (a : Int), .int .i64 (b : Int)] w fun e w' => (∃ r : Bool, e = .returned (.bool r) ∧ (r = true ↔ AlikeIn N c a b)) ∧ Own w0 g N c w' := by
  obtain ⟨⟨M, h1, h2⟩, h3⟩ := h
  refine (live_alike h1 a b ha hb).mono ?_
  rintro e w' ⟨k0, k1, k2⟩
  exact ⟨k0, ⟨M, k1, h2⟩, only_low h3 k2 h3.size h2⟩
theorem own_size (h : Own w0 g N c w) (i : Nat) (hi : i < N.length) (T : Fo) (hT : TreeOf N c [i] T) : Calls Try.prog 13 #[.pointer (some ⟨g, 0, none⟩), .int .i64 (i : Int)] w fun e w' => e = .returned (.int .i64 (capped T.cnt : Int)) ∧ Own w0 g N c w' := by
  have h' := h
  obtain ⟨⟨M, h1, h2⟩, h3⟩ := h
  refine (live_size h1 (i : Int) (capped T.cnt : Int) (.inr ⟨by simp [allIn]; omega, T, by simpa using hT, rfl⟩)).mono ?_
  rintro e w' ⟨rfl, hb⟩
  exact ⟨rfl, h'.keep hb⟩
end

theorem OwnMade.yes {w0 w : World} {g : Nat} {N : List Nd} {kind : Int} {name : ByteArray} {xs : List Int} {e : Ending} (h : OwnMade w0 g N (fun i => i) kind name xs e w) (he : makeErr N.length kind name xs = 0) : e = .returned (.tuple #[.int .i64 (N.length : Int), .int .i64 0]) ∧ Own w0 g (N ++ [⟨kind, name, xs.map Int.toNat⟩]) (fun i => i) w := by
  unfold OwnMade makeV makeN makeC at h
  rw [he, if_pos rfl, if_pos rfl, if_pos rfl, addC_id] at h
  exact h
theorem name_ok : kindL bInt.toList = 1 ∧ kindL bList.toList = 1 := by constructor <;> kernel_rfl
set_option maxRecDepth 100000 in
set_option maxHeartbeats 4000000 in
theorem alive_any (w : World) : Calls Try.prog 9 #[] w fun e w' => e = .returned (.bool true) ∧ Below w.heap.size w w' := by
  go_enter Try.func9, Try.ntmps9
  go_wp2_with fail
  refine (own_new w w (Below.refl _ _)).mono ?_
  rintro e w1 ⟨rfl, h1⟩
  have H1 := hide h1; clear h1
  go_wp2_with fail
  refine (own_var H1.out (by decide)).mono ?_
  rintro e w2 ⟨rfl, h2⟩
  rw [show ([] : List Nd).length = 0 from rfl, addC_id] at h2
  have H2 := hide h2; clear h2
  go_wp2_with fail
  refine (own_var H2.out (by decide)).mono ?_
  rintro e w3 ⟨rfl, h3⟩
  rw [addC_id] at h3
  have H3 := hide h3; clear h3
  go_wp2_with fail
  refine (own_con H3.out bInt none 0 [] (fun h => absurd rfl h) (by decide) (by decide) (by decide)).mono ?_
  intro e w4 hp4
  obtain ⟨rfl, h4⟩ := hp4.yes (by unfold makeErr; rw [if_neg (by simp [allIn]), if_neg (by simp [name_ok.1])])
  have H4 := hide h4; clear h4 hp4
  go_wp2_with fail
  refine (own_arrow H4.out 0 0 (by decide)).mono ?_
  intro e w5 hp5
  obtain ⟨rfl, h5⟩ := hp5.yes (by decide)
  have H5 := hide h5; clear h5 hp5
  go_wp2_with fail
  refine (own_arrow H5.out 2 1 (by decide)).mono ?_
  intro e w6 hp6
  obtain ⟨rfl, h6⟩ := hp6.yes (by decide)
  have H6 := hide h6; clear h6 hp6
  go_wp2_with fail
  refine (own_con (H6.out.keep ((Below.refl _ _).alloc (Nat.le_refl _) _)) bList (some ⟨w6.heap.size, 0, none⟩) 1 [0] (ints_one w6 0 _) (by decide) (by decide) (by decide)).mono ?_
  intro e w7 hp7
  obtain ⟨rfl, h7⟩ := hp7.yes (by unfold makeErr; rw [if_neg (by decide), if_neg (by simp [name_ok.2])])
  have H7 : Hid (Own w w.heap.size N6 (fun i => i) w7) := hide h7
  clear h7 hp7
  go_wp2_with fail
  refine (own_unify H7.out 0 5).mono ?_
  rintro e w8 ⟨err, c8, rfl, hs8, h8⟩
  obtain ⟨rfl, rfl⟩ := alive_cycle hs8 (by obtain ⟨⟨M, k, _⟩, _⟩ := h8; exact k.acyc)
  have H8 := hide h8; clear h8 hs8
  go_wp2_with fail
  refine (own_unify H8.out 3 4).mono ?_
  rintro e w9 ⟨err, c9, rfl, hs9, h9⟩
  obtain ⟨rfl, h34⟩ := alive_ok hs9
  have H9 := hide h9; have H34 := hide h34; clear h9 hs9 h34
  have Hw9 : Hid (Wf N6 ∧ Closed N6 c9) := hide (by obtain ⟨⟨M, k, _⟩, _⟩ := H9.out; exact ⟨k.wf, k.closed⟩)
  go_wp2_with fail
  have hb9 : Below w9.heap.size w9 (w9.alloc (Obj.cells #[.int .i64 1, .int .i64 5] 3)) := (Below.refl _ _).alloc (Nat.le_refl _) _
  obtain ⟨⟨M, kL, kM⟩, kB⟩ := H9.out.keep hb9
  obtain ⟨T, hT⟩ := kL.tree [1, 5] (by decide)
  have hTe := alive_tree Hw9.out.1 Hw9.out.2 H34.out hT
  have htypes := live_types kL (some ⟨w9.heap.size, 0, none⟩) 2 [1, 5] (ints_two w9 1 5 _) (by decide) (by decide) T hT (fun x hx B hB => (alive_small Hw9.out.1 Hw9.out.2 H34.out (by simpa using hx) hB).1)
  have hren : ren T = .con 2 bInt .nil (.con 2 bList (.con 2 bInt .nil .nil) .nil) := by rw [hTe]; rfl
  rw [hren] at htypes
  have HB := hide (H9.out.keep hb9)
  clear kL kM kB hT hTe hren hb9
  refine htypes.mono ?_
  rintro e w10 ⟨A, cp, rfl, hat, hb10⟩
  have H10 := hide (HB.out.keep hb10)
  obtain ⟨b, off, rfl, hn1, hn2⟩ : ∃ b off, A = some ⟨b, off, none⟩ ∧ w10.cell? ⟨b, off + 2, none⟩ = some (.string bInt) ∧ w10.cell? ⟨b, off + 6, none⟩ = some (.string bList) := by
    rcases hat with h | ⟨b, off, cs, e1, -, hc, hcell⟩
    · cases h
    · obtain ⟨A1, c1, r1, rfl, -, A2, c2, r2, rfl, -, -⟩ := hc
      exact ⟨b, off, e1, hcell 2 _ rfl, hcell 6 _ rfl⟩
  clear hat hb10 htypes
  have q1 : bInt.toList = [105, 110, 116] := by kernel_rfl
  have q2 : bList.toList = [108, 105, 115, 116] := by kernel_rfl
  go_wp2_with fail
  refine (own_alike H10.out 1 2 (by decide) (by decide)).mono ?_
  rintro e w11 ⟨⟨r, rfl, hr⟩, h11⟩
  obtain rfl : r = true := hr.2 (alive_yes Hw9.out.2 H34.out)
  have H11 := hide h11; clear h11 hr
  go_wp2_with fail
  refine (own_alike H11.out 3 2 (by decide) (by decide)).mono ?_
  rintro e w12 ⟨⟨r, rfl, hr⟩, h12⟩
  obtain rfl : r = false := by
    cases r with
    | false => rfl
    | true => exact absurd (hr.1 rfl) (alive_no c9)
  have H12 := hide h12; clear h12 hr
  go_wp2_with fail
  obtain ⟨T5, hT5⟩ : ∃ T5, TreeOf N6 c9 [5] T5 := by
    obtain ⟨⟨M, k, _⟩, _⟩ := H12.out
    exact k.tree [5] (by decide)
  have hc5 := (alive_small Hw9.out.1 Hw9.out.2 H34.out (.inr rfl) hT5).2 rfl
  refine (own_size H12.out 5 (by decide) T5 hT5).mono ?_
  rw [hc5]
  rintro e w13 ⟨rfl, h13⟩
  have H13 := hide h13; clear h13
  have q3 : (capped 2 : Int) = 2 := rfl
  go_wp2_with fail
  refine (own_len_ H13.out).mono ?_
  rintro e w14 ⟨rfl, rfl⟩
  have q4 : (N6.length : Int) = 6 := rfl
  go_wp2
  go_ret
  exact ⟨rfl, H13.out.below⟩
end Go.Proofs.Ytafpbdmggnfdnaa

/- The walk of the law UnifyTypes. -/
namespace Go.Proofs.Ytafpbdmggnfdnaa
open Go.RowKit
set_option linter.unusedVariables false

set_option maxRecDepth 100000 in
set_option maxHeartbeats 4000000 in
theorem unifyTypes_walk (A : Option Addr) (cap : Nat) (ops0 : List OpV) (A1 : Option Addr) (c1 : Nat) (xs : List Int) (w : World) (hA : OpsAt w A ops0) (hl : OpsLen ops0) (hcap : ops0.length ≤ cap) (hX : Ints w A1 xs) (hxl : xs.length ≤ 140737488351232) :
    Calls Try.prog 4 #[.slice A ops0.length cap, .slice A1 xs.length c1] w fun e w' => e = .returned (.bool true) ∧ Below w.heap.size w w' := by
  obtain ⟨ops, hops⟩ : ∃ ops, ops0.take 60 = ops := ⟨_, rfl⟩
  have h60 : ops.length ≤ 60 := by rw [← hops, List.length_take]; omega
  have hA' : OpsAt w A ops := by rw [← hops]; exact hA.take 60
  have hl' : OpsLen ops := by
    rw [← hops]
    exact ⟨by rw [List.length_take]; have := hl.1; omega, fun o ho => hl.2 o (List.mem_of_mem_take ho)⟩
  have HC := hide (fun W (hW : Below w.heap.size w W) => cut_any W A cap ops0 (hA.below hW) hl hcap)
  rw [hops] at HC
  have HG := hide (fun W (hW : Below w.heap.size w W) => heavy_any W A cap ops (hA'.below hW) hl' h60)
  have HA := hide hA'; have Hl := hide hl'; have HX := hide hX
  clear hops hA hl hA' hl' hX
  go_enter Try.func4, Try.ntmps4
  go_wp2_with fail
  refine (alive_any _).mono ?_
  rintro e w1 ⟨rfl, hb1⟩
  have Hb1 := hide hb1
  clear hb1
  go_wp2_with fail
  refine (HC.out w1 Hb1.out).mono ?_
  rintro e w2 ⟨rfl, rfl⟩
  go_wp2_with fail
  refine (HG.out w1 Hb1.out).mono ?_
  rintro e w2 ⟨rfl, hb2⟩
  have Hb2 := hide (Hb1.out.trans (hb2.mono Hb1.out.size))
  clear hb2
  cases hh : heavyB ops
  · have Hfit : Hid (OpsFit ops) := hide (weight_fit h60 (by unfold heavyB at hh; simpa using hh))
    clear hh
    by_cases h50 : 50 < xs.length
    · have k1 : decide ((50 : Int) < (xs.length : Int)) = true := by simp; omega
      have k2 : decide (50 < xs.length) = true := by simp; omega
      go_wp2
      go_ret
      exact ⟨rfl, Hb2.out⟩
    have k1 : decide ((50 : Int) < (xs.length : Int)) = false := by simp; omega
    have k2 : decide (50 < xs.length) = false := by simp; omega
    go_wp2_with fail
    refine (runs_any w2 A cap ops (HA.out.below Hb2.out) Hfit.out).mono ?_
    rintro e w3 ⟨g, v, B, mcap, N, made, d, d', rfl, hr, hr', hT, hM⟩
    obtain ⟨Av, vcap, hv⟩ := hT.facts.2.2.2.2
    subst hv
    have hsame := (RunsR.same hr hr').2.2
    have hml : made.length ≤ 60 := by have := hr.facts.2.2.2; simp at this; omega
    have HT := hide hT; have HM := hide hM; have Hsame := hide hsame
    have hwl := hT.below.size
    clear hr hr' hT hM hsame hcap k1 k2
    go_upto_region 9 with fail
    have hb4 : Below w3.heap.size w3 (w3.alloc (.cells #[.slice Av N.length vcap] 29)) := (Below.refl _ _).alloc (Nat.le_refl _) _
    have hbox4 := heap_alloc_new w3 (.cells #[.slice Av N.length vcap] 29)
    obtain ⟨w4, hw4⟩ : ∃ w4, w3.alloc (.cells #[.slice Av N.length vcap] 29) = w4 := ⟨_, rfl⟩
    rw [hw4] at hb4 hbox4
    simp only [hw4]
    have hl4 : w3.heap.size < w4.heap.size := (Array.getElem?_eq_some_iff.1 hbox4).1
    have Hb4 := hide hb4; have Hbox4 := hide hbox4
    have Hbw4 := hide ((Hb2.out.trans (HT.out.below.mono Hb2.out.size)).trans (hb4.mono (by have := Hb2.out.size; omega)))
    have HT4 := hide (HT.out.later hb4)
    have HP := hide (placed_any w4 A1 B c1 mcap xs made (HX.out.below Hbw4.out) (Ints.below HM.out hb4) (by omega) (by omega))
    clear hw4 hb4 hbox4
    obtain ⟨ys, hys⟩ : ∃ ys, placedL xs made = ys := ⟨_, rfl⟩
    have hyl : ys.length = xs.length := by rw [← hys, placedL_length]
    rw [hys] at HP
    have hyl' : ys.length ≤ 50 := by omega
    clear hys hyl
    go_wp2_with fail
    refine HP.out.mono ?_
    rintro e w5 ⟨A5, c5, rfl, hi5, hn5, hb5⟩
    have Hi5 := hide hi5
    have Hb45 := hide hb5
    clear hi5 hn5 hb5 HP
    go_wp2_with fail
    refine (copyInts_any A5 c5 ys w5 Hi5.out (by omega)).mono ?_
    rintro e w6 ⟨A6, c6, rfl, hi6, hn6, hb6⟩
    have Hi6 := hide hi6
    have Hb46 := hide (Hb45.out.trans (hb6.mono Hb45.out.size))
    have Hi56 := hide (Hi5.out.below hb6)
    clear hi6 hn6 hb6
    obtain ⟨err, F, hty, hcnt⟩ := TyCase.ex HT.out.cls.1 ys
    have Hty := hide hty
    have Hty' := hide (hty.same HT.out.cls.1 HT.out.cls.2 Hsame.out)
    clear hty
    go_wp2_with fail
    refine (two_types (HT4.out.later Hb46.out) A6 c6 ys Hi6.out (by omega) Hty.out).mono ?_
    rintro e w7 ⟨A7, c7, rfl, hf7, hb7⟩
    have Hb47 := hide (Hb46.out.trans (hb7.mono Hb46.out.size))
    have Hf7 := hide hf7
    have Hi57 := hide (Hi56.out.below hb7)
    have Hi67 := hide (Hi6.out.below hb7)
    have hbox7 := (Hb47.out.block _ hl4).trans Hbox4.out
    obtain ⟨s0, t0⟩ := one_cell hbox7
    clear hf7 hb7 hbox7
    go_wp2_with fail
    refine (twor_types (HT4.out.later Hb47.out) A5 c5 ys Hi57.out (by omega) Hty'.out).mono ?_
    rintro e w8 ⟨A8, c8, rfl, hf8, hb8⟩
    have Hb48 := hide (Hb47.out.trans (hb8.mono Hb47.out.size))
    have hz46 := Hb46.out.size; have hz47 := Hb47.out.size; have hz48 := Hb48.out.size
    have Hf78 := hide (FoAt.keep Hf7.out (P' := fun b => b < w8.heap.size) (fun b hb => by have := hb8.size; omega) (fun p hp => hb8.cell hp.2))
    have Hf88 := hide (FoAt.keep (w' := w8) hf8 (P' := fun b => b < w8.heap.size) (fun b hb => hb.2) (fun p hp => rfl))
    have Hi58 := hide (Hi57.out.below hb8)
    have Hi68 := hide (Hi67.out.below hb8)
    clear hf8 hb8 s0 t0
    have ke : ((err : Int) == err) = true := by simp
    go_wp2_with fail
    refine (sameTypes_any (fun b => b < w8.heap.size) F w8 A7 A8 c7 c8 (by omega) (fun b hb => hb) Hf78.out Hf88.out).mono ?_
    rintro e w9 ⟨rfl, hb9⟩
    have Hb49 := hide (Hb48.out.trans (hb9.mono Hb48.out.size))
    have Hi59 := hide (Hi58.out.below hb9)
    have Hi69 := hide (Hi68.out.below hb9)
    clear hb9
    go_wp2_with fail
    refine (sameInts_any w9 A6 A5 c6 c5 ys Hi69.out Hi59.out (by omega)).mono ?_
    rintro e w10 ⟨rfl, n, rfl⟩
    have Hfin := hide (below_drewN (Hbw4.out.trans (Hb49.out.mono Hbw4.out.size)) n)
    go_wp2
    go_ret
    exact ⟨rfl, Hfin.out⟩
  · clear hh
    go_wp2
    go_ret
    exact ⟨rfl, Hb2.out⟩
end Go.Proofs.Ytafpbdmggnfdnaa
