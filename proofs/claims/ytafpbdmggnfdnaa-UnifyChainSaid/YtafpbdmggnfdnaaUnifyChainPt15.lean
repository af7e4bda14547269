/- Part 15 of the proof of UnifyChain: what follows was kept as these texts: LawBase, Alive, AliveWalk, LawChain, OpenOps. -/
import Derived.Test.YtafpbdmggnfdnaaUnifyChainPt1
import Derived.Test.YtafpbdmggnfdnaaUnifyChainPt2
import Derived.Test.YtafpbdmggnfdnaaUnifyChainPt3
import Derived.Test.YtafpbdmggnfdnaaUnifyChainPt4
import Derived.Test.YtafpbdmggnfdnaaUnifyChainPt5
import Derived.Test.YtafpbdmggnfdnaaUnifyChainPt6
import Derived.Test.YtafpbdmggnfdnaaUnifyChainPt7
import Derived.Test.YtafpbdmggnfdnaaUnifyChainPt8
import Derived.Test.YtafpbdmggnfdnaaUnifyChainPt9
import Derived.Test.YtafpbdmggnfdnaaUnifyChainPt10
import Derived.Test.YtafpbdmggnfdnaaUnifyChainPt11
import Derived.Test.YtafpbdmggnfdnaaUnifyChainPt12
import Derived.Test.YtafpbdmggnfdnaaUnifyChainPt13
import Derived.Test.YtafpbdmggnfdnaaUnifyChainPt14
import Derived.Deep.Slices
import Derived.Deep.Fields
import Derived.ProofKit
import Derived.SizedLaws
/- cut, great. -/
namespace Go.Proofs.Ytafpbdmggnfdnaa
open Go.RowKit
set_option linter.unusedVariables false

theorem OpsAt.take {w : World} {A : Option Addr} {ops : List OpV} (h : OpsAt w A ops) (n : Nat) : OpsAt w A (ops.take n) := by
  intro hne
  obtain ⟨b, off, e, hb, hc⟩ := h (by intro e; subst e; simp at hne)
  refine ⟨b, off, e, hb, fun k hk => ?_⟩
  have hk' : k < ops.length := by simp at hk; omega
  have := hc k hk'
  simpa using this
theorem OpsAt.drewN {w : World} {A : Option Addr} {ops : List OpV} (h : OpsAt w A ops) (n : Nat) : OpsAt (w.drewN n) A ops := h
def weight (ops : List OpV) : Nat := (ops.map fun o => o.args.length + o.name.size / 16).sum
theorem weight_fit {ops : List OpV} (hl : ops.length ≤ 60) (hw : weight ops ≤ 500) : OpsFit ops := by
  refine ⟨hl, fun o ho => ?_⟩
  have : o.args.length + o.name.size / 16 ≤ weight ops := by
    clear hl hw
    unfold weight
    induction ops with
    | nil => simp at ho
    | cons p ops ih =>
      rw [List.map_cons, List.sum_cons]
      rcases List.mem_cons.1 ho with rfl | ho
      · omega
      · have := ih ho; omega
  omega
theorem weight_snoc (ops : List OpV) (k : Nat) (hk : k < ops.length) : weight (ops.take (k + 1)) = weight (ops.take k) + (ops[k].args.length + ops[k].name.size / 16) := by
  unfold weight
  rw [List.take_succ_eq_append_getElem hk, List.map_append, List.sum_append]; simp
/-- A script as it is handed in: lengths that can be. -/
def OpsLen (ops : List OpV) : Prop := ops.length ≤ 140737488351232 ∧ ∀ o ∈ ops, o.args.length ≤ 140737488351232 ∧ o.name.size ≤ 140737488351232
set_option maxRecDepth 100000 in
set_option maxHeartbeats 1000000 in
theorem cut_any (w : World) (A : Option Addr) (cap : Nat) (ops : List OpV) (hA : OpsAt w A ops) (hl : OpsLen ops) (hcap : ops.length ≤ cap) :
    Calls Try.prog 10 #[.slice A ops.length cap] w fun e w' => e = .returned (.slice A (ops.take 60).length cap) ∧ w = w' := by
  have h1 := hl.1
  clear hl
  by_cases h : 60 < ops.length
  · have k1 : decide ((60 : Int) < (ops.length : Int)) = true := by simp; omega
    obtain ⟨b, off, rfl, -⟩ := hA (by intro e; rw [e] at h; exact absurd h (by decide))
    have hsl := fun W => run_slice_h (P := Try.prog) W 22 (some ⟨b, off, none⟩) ops.length cap Try.underlying22 .i64 (60 : Int) (by omega) (by omega)
    have HL2 : Hid ((ops.take 60).length = 60) := hide (by rw [List.length_take]; omega)
    go_enter Try.func10, Try.ntmps10
    go_wp2
    go_ret
    exact ⟨by rw [HL2.out]; rfl, rfl⟩
  · have k1 : decide ((60 : Int) < (ops.length : Int)) = false := by simp; omega
    have HL2 : Hid ((ops.take 60).length = ops.length) := hide (by rw [List.length_take]; omega)
    go_enter Try.func10, Try.ntmps10
    go_wp2
    go_ret
    exact ⟨by rw [HL2.out]; rfl, rfl⟩
def heavyB (ops : List OpV) : Bool := decide (500 < weight ops)
set_option maxRecDepth 100000 in
set_option maxHeartbeats 2000000 in
theorem heavy_any (w : World) (A : Option Addr) (cap : Nat) (ops : List OpV) (hA : OpsAt w A ops) (hl : OpsLen ops) (h60 : ops.length ≤ 60) :
    Calls Try.prog 11 #[.slice A ops.length cap] w fun e w' => e = .returned (.bool (heavyB ops)) ∧ Below w.heap.size w w' := by
  have HA := hide hA; have HL := hide hl
  clear hA hl
  go_enter Try.func11, Try.ntmps11
  go_wp2
  go_loopw [3, 4] (fun vn vi wr => ∃ (k n : Nat), vi = .int .i64 k ∧ vn = .int .i64 n ∧ k ≤ ops.length ∧ n ≤ k * 1000000000000000 ∧ Hid (n = weight (ops.take k)) ∧ Hid (Below w.heap.size w wr)) (fun _ vi _ => ops.length - (intOf vi).toNat)
  case atStart => exact ⟨0, 0, rfl, rfl, by omega, by omega, hide rfl, hide (Below.refl _ _)⟩
  case round =>
    obtain ⟨k, n, rfl, rfl, hk, hn, HN, HB⟩ := hrel
    by_cases hlt : k < ops.length
    · obtain ⟨b, off, rfl, hb, d0, d1, d2, -⟩ := HA.out.at_ k hlt
      have hfit := HL.out.2 ops[k] (List.getElem_mem hlt)
      have Hw := hide (weight_snoc ops k hlt)
      obtain ⟨o, ho⟩ : ∃ o, ops[k] = o := ⟨_, rfl⟩
      rw [ho] at d0 d1 d2 hfit Hw
      have e1 := (HB.out.cell (p := ⟨b, off + k * 3 + 1, none⟩) hb).trans d1
      have e2 := (HB.out.cell (p := ⟨b, off + k * 3 + 2, none⟩) hb).trans d2
      have hal := hfit.1; have hnl := hfit.2
      clear d0 d1 d2 hfit ho
      obtain ⟨q, hq⟩ : ∃ q, o.name.size / 16 = q := ⟨_, rfl⟩
      have hql : q ≤ o.name.size := by omega
      rw [hq] at Hw
      have j0 : (o.name.size : Int).tdiv 16 = (q : Int) := by rw [← hq]; rw [Int.tdiv_eq_ediv_of_nonneg (by omega)]; omega
      have j1 : IntKind.i64.wrap (q : Int) = (q : Int) := IntWalk.i64_in _ (by omega)
      have j2 : IntKind.i64.wrap ((o.args.length : Int) + (q : Int)) = (o.args.length : Int) + (q : Int) := IntWalk.i64_in _ (by omega)
      have j3 : IntKind.i64.wrap ((n : Int) + ((o.args.length : Int) + (q : Int))) = (n : Int) + ((o.args.length : Int) + (q : Int)) := IntWalk.i64_in _ (by omega)
      have j4 : (k : Int) < (ops.length : Int) := by omega
      have j5 : (0 : Int) ≤ (k : Int) := by omega
      clear hq
      go_wp2
      go_quiet (fail)
      have Hb2 := hide (below_drewN HB.out nq)
      clear j0 j1 j2 j3 j4 j5 e1 e2
      go_wp2
      go_roundw
      case measure => simp [intOf]; omega
      case rel => exact ⟨k + 1, n + (o.args.length + q), by go_num, by go_num, by omega, by omega, hide (by rw [Hw.out, HN.out]), Hb2⟩
    · obtain rfl : k = ops.length := by omega
      have HG : Hid (heavyB ops = decide (500 < n)) := hide (by unfold heavyB; rw [HN.out, List.take_of_length_le (Nat.le_refl _)])
      go_wp2
      go_ret
      exact ⟨ret_bool (by rw [HG.out]; simp; omega), HB.out⟩
end Go.Proofs.Ytafpbdmggnfdnaa

/- alive: a store of six nodes. -/
namespace Go.Proofs.Ytafpbdmggnfdnaa
open Go.RowKit
set_option linter.unusedVariables false

theorem addC_id (n : Nat) : addC n (fun i => i) = fun i => i := by
  funext i; unfold addC; split
  · rename_i h; exact h.symm
  · rfl
/-- A class with a head that is no variable. -/
theorem Stands.con_of {N : List Nd} {c F : Nat → Nat} (hw : Wf N) (hcl : Closed N c) (hF : ∀ i, i < N.length → Form N c (c i) (F (c i))) {i j : Nat} {is : List Nat} {T : Fo} {q : Nd} (hi : i < N.length) (hj : N[j]? = some q) (hij : c j = c i) (hk : q.kind ≠ 1) (h : Stands N c F (i :: is) T) :
    ∃ A T', T = .con q.kind q.name A T' ∧ Stands N c F q.args A ∧ Stands N c F is T' := by
  have Fi := hF i hi
  cases h with
  | @var _ _ T' p hp hkp hr => exact absurd hkp (Fi.head j q p hj hij hk hp)
  | @con _ _ A T' p hp hkp ha hr =>
    obtain ⟨hh, hargs⟩ := hcl (F (c i)) j p q hp hj (Fi.cls.trans hij.symm) hkp hk
    exact ⟨A, T', by rw [hh.1, hh.2.1], ha.congr hh.2.2 hargs, hr⟩

def bInt : ByteArray := ⟨#[105, 110, 116]⟩
def bList : ByteArray := ⟨#[108, 105, 115, 116]⟩
def N6 : List Nd := [varNd, varNd, ⟨2, bInt, []⟩, ⟨4, ByteArray.empty, [0, 0]⟩, ⟨4, ByteArray.empty, [2, 1]⟩, ⟨2, bList, [0]⟩]
theorem forall6 {P : Nat → Prop} (h0 : P 0) (h1 : P 1) (h2 : P 2) (h3 : P 3) (h4 : P 4) (h5 : P 5) (i : Nat) (hi : i < 6) : P i := by
  rcases i with _ | _ | _ | _ | _ | _ | i
  · exact h0
  · exact h1
  · exact h2
  · exact h3
  · exact h4
  · exact h5
  · omega
theorem at6 {i : Nat} {p : Nd} (h : N6[i]? = some p) : i < 6 := by
  have := (List.getElem?_eq_some_iff.1 h).1
  simpa [N6] using this
theorem alive_cycle {err : Int} {c' : Nat → Nat} (h : UniSaid N6 (fun i => i) 0 5 err c') (ha : Acyc N6 c') : err = 130 ∧ c' = fun i => i := by
  rcases h with ⟨h, _⟩ | ⟨_, ⟨_, h⟩ | ⟨_, _, h⟩ | ⟨h1, h2, _⟩⟩
  · exact absurd h (by decide)
  · obtain ⟨g, g1, g2⟩ := ha
    have h1 := g2 5 ⟨2, bList, [0]⟩ rfl 0 (by simp)
    have h2 := g1 0 5 (by decide) (by decide) h.good.ab
    omega
  · refine absurd ?_ (h (fun i => if i = 5 then 0 else i))
    refine ⟨fun i j _ _ e => by have e' : i = j := e; rw [e'], rfl, ?_⟩
    intro i j p q hi hj hij hp hq
    have : i = j := by
      have h1 := at6 hi
      have h2 := at6 hj
      simp only at hij
      by_cases e1 : i = 5 <;> by_cases e2 : j = 5
      · omega
      · rw [if_pos e1, if_neg e2] at hij
        subst hij
        simp [N6] at hj; subst hj; exact absurd rfl hq
      · rw [if_neg e1, if_pos e2] at hij
        subst hij
        simp [N6] at hi; subst hi; exact absurd rfl hp
      · rw [if_neg e1, if_neg e2] at hij; exact hij
    subst this
    rw [hi] at hj; injection hj with hj; subst hj
    exact ⟨⟨rfl, rfl, rfl⟩, fun k a b ha hb => by rw [ha] at hb; injection hb with hb; rw [hb]⟩
  · exact ⟨h1, h2⟩
def e6 (i : Nat) : Nat := if i ≤ 2 then 0 else if i ≤ 4 then 3 else i
theorem good6 : Good N6 (fun i => i) 3 4 e6 := by
  refine ⟨fun i j _ _ e => by have e' : i = j := e; rw [e'], rfl, ?_⟩
  intro i j p q hi hj
  have h1 := at6 hi
  have h2 := at6 hj
  revert hi hj
  refine forall6 (P := fun i => N6[i]? = some p → N6[j]? = some q → e6 i = e6 j → p.kind ≠ 1 → q.kind ≠ 1 → Heads p q ∧ ∀ (k a b : Nat), p.args[k]? = some a → q.args[k]? = some b → e6 a = e6 b) ?_ ?_ ?_ ?_ ?_ ?_ i h1 <;>
  refine forall6 (P := fun j => N6[_]? = some p → N6[j]? = some q → e6 _ = e6 j → p.kind ≠ 1 → q.kind ≠ 1 → Heads p q ∧ ∀ (k a b : Nat), p.args[k]? = some a → q.args[k]? = some b → e6 a = e6 b) ?_ ?_ ?_ ?_ ?_ ?_ j h2 <;>
  · intro hp hq he kp kq
    first
      | exact absurd he (by decide)
      | (simp only [N6, List.getElem?_cons_zero, List.getElem?_cons_succ, Option.some.injEq] at hp hq
         subst hp; subst hq
         first
           | exact absurd rfl kp
           | exact absurd rfl kq
           | (refine ⟨⟨rfl, rfl, rfl⟩, fun k a b ha hb => ?_⟩
              rcases k with _ | _ | k <;> simp at ha hb <;> (try subst ha) <;> (try subst hb) <;> rfl))
theorem acyc6 : Acyc N6 e6 := by
  refine ⟨fun i => if i ≤ 2 then 0 else 1, ?_, fun i p hi => ?_⟩
  · intro i j hi hj
    have h1 : i < 6 := by simpa [N6] using hi
    have h2 : j < 6 := by simpa [N6] using hj
    unfold e6
    intro hij
    show (if i ≤ 2 then 0 else 1) = (if j ≤ 2 then 0 else 1)
    by_cases a : i ≤ 2 <;> by_cases b : j ≤ 2
    · rw [if_pos a, if_pos b]
    · rw [if_pos a, if_neg b] at hij; split at hij <;> omega
    · rw [if_neg a, if_pos b] at hij; split at hij <;> omega
    · rw [if_neg a, if_neg b]
  · have h1 := at6 hi
    revert hi
    refine forall6 (P := fun i => N6[i]? = some p → ∀ a ∈ p.args, (if a ≤ 2 then 0 else 1) < (if i ≤ 2 then 0 else 1)) ?_ ?_ ?_ ?_ ?_ ?_ i h1 <;>
    · intro hp a ha
      simp only [N6, List.getElem?_cons_zero, List.getElem?_cons_succ, Option.some.injEq] at hp
      subst hp
      simp [varNd] at ha
      try (rcases ha with rfl | rfl <;> decide)
      try (subst ha; decide)
theorem alive_ok {err : Int} {c' : Nat → Nat} (h : UniSaid N6 (fun i => i) 3 4 err c') : err = 0 ∧ c' 3 = c' 4 := by
  rcases h with ⟨h, _⟩ | ⟨_, ⟨h0, h⟩ | ⟨_, _, h⟩ | ⟨h1, h2, cl, hl, hn⟩⟩
  · exact absurd h (by decide)
  · exact ⟨h0, h.good.ab⟩
  · exact absurd good6 (h e6)
  · exact absurd (acyc6.of (hl.least e6 good6)) hn
theorem alive_cls {c : Nat → Nat} (hcl : Closed N6 c) (h : c 3 = c 4) : c 0 = c 2 ∧ c 0 = c 1 := by
  obtain ⟨_, h1⟩ := hcl 3 4 _ _ rfl rfl h (by decide) (by decide)
  exact ⟨h1 0 0 2 rfl rfl, h1 1 0 1 rfl rfl⟩
theorem alive_tree {c : Nat → Nat} (hw : Wf N6) (hcl : Closed N6 c) (h : c 3 = c 4) {T : Fo} (hT : TreeOf N6 c [1, 5] T) : T = .con 2 bInt .nil (.con 2 bList (.con 2 bInt .nil .nil) .nil) := by
  obtain ⟨h1, h2⟩ := alive_cls hcl h
  obtain ⟨F, hF, hS⟩ := hT
  obtain ⟨A, T', rfl, ha, hr⟩ := Stands.con_of hw hcl hF (by decide) (j := 2) (q := ⟨2, bInt, []⟩) rfl (h1.symm.trans h2) (by decide) hS
  cases ha
  obtain ⟨B, T'', rfl, hb, hr2⟩ := Stands.con_of hw hcl hF (by decide) (j := 5) (q := ⟨2, bList, [0]⟩) rfl rfl (by decide) hr
  cases hr2
  obtain ⟨C, T3, rfl, hc, hr3⟩ := Stands.con_of hw hcl hF (by decide) (j := 2) (q := ⟨2, bInt, []⟩) rfl h1.symm (by decide) hb
  cases hc; cases hr3
  rfl
theorem alive_small {c : Nat → Nat} (hw : Wf N6) (hcl : Closed N6 c) (h : c 3 = c 4) {x : Nat} (hx : x = 1 ∨ x = 5) {T : Fo} (hT : TreeOf N6 c [x] T) : T.cnt ≤ 300 ∧ (x = 5 → T.cnt = 2) := by
  obtain ⟨h1, h2⟩ := alive_cls hcl h
  obtain ⟨F, hF, hS⟩ := hT
  rcases hx with rfl | rfl
  · obtain ⟨A, T', rfl, ha, hr⟩ := Stands.con_of hw hcl hF (by decide) (j := 2) (q := ⟨2, bInt, []⟩) rfl (h1.symm.trans h2) (by decide) hS
    cases ha; cases hr
    exact ⟨by simp [Fo.cnt], fun e => by cases e⟩
  · obtain ⟨B, T'', rfl, hb, hr2⟩ := Stands.con_of hw hcl hF (by decide) (j := 5) (q := ⟨2, bList, [0]⟩) rfl rfl (by decide) hS
    cases hr2
    obtain ⟨C, T3, rfl, hc, hr3⟩ := Stands.con_of hw hcl hF (by decide) (j := 2) (q := ⟨2, bInt, []⟩) rfl h1.symm (by decide) hb
    cases hc; cases hr3
    exact ⟨by simp [Fo.cnt], fun _ => by simp [Fo.cnt]⟩
theorem alive_yes {c : Nat → Nat} (hcl : Closed N6 c) (h : c 3 = c 4) : AlikeIn N6 c 1 2 := by
  obtain ⟨h1, h2⟩ := alive_cls hcl h
  exact ⟨c, ⟨fun _ _ _ _ e => e, h2.symm.trans h1, hcl⟩, Still.refl _ _⟩
theorem alive_no (c : Nat → Nat) : ¬ AlikeIn N6 c 3 2 := by
  rintro ⟨e, he, _⟩
  have := (he.closed 3 2 _ _ rfl rfl he.ab (by decide) (by decide)).1.1
  exact absurd this (by decide)
end Go.Proofs.Ytafpbdmggnfdnaa

/- alive answers true. -/
namespace Go.Proofs.Ytafpbdmggnfdnaa
open Go.RowKit
set_option linter.unusedVariables false

theorem only_low {M : Nat → Prop} {B : Nat} {w0 w w' : World} (hb : Below B w0 w) (ho : Only M w w') (hB : B ≤ w.heap.size) (hM : ∀ b, M b → B ≤ b) : Below B w0 w' := Only.below_trans hb ho (fun b _ h => hM b h) hB
theorem more_low {M : Nat → Prop} {B : Nat} {w w' : World} (hB : B ≤ w.heap.size) (hM : ∀ b, M b → B ≤ b) : ∀ b, more M w w' b → B ≤ b := by
  rintro b (h | h)
  · exact hM b h
  · omega
/-- A store that is new since w0. -/
structure Own (w0 : World) (g : Nat) (N : List Nd) (c : Nat → Nat) (w : World) : Prop where
  out : ∃ M, Live M g N c w ∧ ∀ b, M b → w0.heap.size ≤ b
  below : Below w0.heap.size w0 w
section
variable {w0 w : World} {g : Nat} {N : List Nd} {c : Nat → Nat}
theorem Own.keep (h : Own w0 g N c w) {w' : World} (hb : Below w.heap.size w w') : Own w0 g N c w' := by
  obtain ⟨⟨M, h1, h2⟩, h3⟩ := h
  exact ⟨⟨M, h1.below hb, h2⟩, h3.trans (hb.mono h3.size)⟩
theorem own_new (w0 w : World) (h : Below w0.heap.size w0 w) : Calls Try.prog 25 #[] w fun e w' => e = .returned (.pointer (some ⟨w.heap.size, 0, none⟩)) ∧ Own w0 w.heap.size [] (fun i => i) w' := by
  refine (live_new w).mono ?_
  rintro e w' ⟨rfl, h1, h2⟩
  exact ⟨rfl, ⟨_, h1, fun b hb => by rw [hb]; exact h.size⟩, h.trans (h2.mono h.size)⟩
theorem own_var (h : Own w0 g N c w) (hm : N.length + 1 ≤ 1000000) : Calls Try.prog 26 #[.pointer (some ⟨g, 0, none⟩)] w fun e w' => e = .returned (.int .i64 (N.length : Int)) ∧ Own w0 g (N ++ [varNd]) (addC N.length c) w' := by
  obtain ⟨⟨M, h1, h2⟩, h3⟩ := h
  refine (live_var h1 hm).mono ?_
  rintro e w' ⟨rfl, k1, k2⟩
  exact ⟨rfl, ⟨_, k1, more_low h3.size h2⟩, only_low h3 k2 h3.size h2⟩
def OwnMade (w0 : World) (g : Nat) (N : List Nd) (c : Nat → Nat) (kind : Int) (name : ByteArray) (xs : List Int) (e : Ending) (w' : World) : Prop :=
  e = .returned (.tuple #[.int .i64 (makeV N kind name xs), .int .i64 (makeErr N.length kind name xs)]) ∧ Own w0 g (makeN N kind name xs) (makeC N c kind name xs) w'
theorem own_con (h : Own w0 g N c w) (name : ByteArray) (A : Option Addr) (cap : Nat) (xs : List Int) (hx : Ints w A xs) (hl : xs.length ≤ 1000000) (hs : name.size ≤ 1000000) (hm : N.length + 1 ≤ 1000000) :
    Calls Try.prog 30 #[.pointer (some ⟨g, 0, none⟩), .string name, .slice A xs.length cap] w (OwnMade w0 g N c 2 name xs) := by
  obtain ⟨⟨M, h1, h2⟩, h3⟩ := h
  refine (live_con h1 name A cap xs hx hl hs hm).mono ?_
  rintro e w' ⟨rfl, k1, k2⟩
  exact ⟨rfl, ⟨_, k1, more_low h3.size h2⟩, only_low h3 k2 h3.size h2⟩
theorem own_pair (h : Own w0 g N c w) (A : Option Addr) (cap : Nat) (xs : List Int) (hx : Ints w A xs) (hl : xs.length ≤ 1000000) (hm : N.length + 1 ≤ 1000000) :
    Calls Try.prog 27 #[.pointer (some ⟨g, 0, none⟩), .slice A xs.length cap] w (OwnMade w0 g N c 3 ByteArray.empty xs) := by
  obtain ⟨⟨M, h1, h2⟩, h3⟩ := h
  refine (live_pair h1 A cap xs hx hl hm).mono ?_
  rintro e w' ⟨rfl, k1, k2⟩
  exact ⟨rfl, ⟨_, k1, more_low h3.size h2⟩, only_low h3 k2 h3.size h2⟩
theorem own_arrow (h : Own w0 g N c w) (a b : Int) (hm : N.length + 1 ≤ 1000000) :
    Calls Try.prog 31 #[.pointer (some ⟨g, 0, none⟩), .int .i64 a, .int .i64 b] w (OwnMade w0 g N c 4 ByteArray.empty [a, b]) := by
  obtain ⟨⟨M, h1, h2⟩, h3⟩ := h
  refine (live_arrow h1 a b hm).mono ?_
  rintro e w' ⟨rfl, k1, k2⟩
  exact ⟨rfl, ⟨_, k1, more_low h3.size h2⟩, only_low h3 k2 h3.size h2⟩
theorem own_len_ (h : Own w0 g N c w) : Calls Try.prog 32 #[.pointer (some ⟨g, 0, none⟩)] w fun e w' => e = .returned (.int .i64 (N.length : Int)) ∧ w = w' := by
  obtain ⟨⟨M, h1, h2⟩, h3⟩ := h
  exact live_len h1
theorem own_unify (h : Own w0 g N c w) (a b : Int) : Calls Try.prog 23 #[.pointer (some ⟨g, 0, none⟩), .int .i64 a, .int .i64 b] w fun e w' => ∃ err c', e = .returned (.int .i64 err) ∧ UniSaid N c a b err c' ∧ Own w0 g N c' w' := by
  obtain ⟨⟨M, h1, h2⟩, h3⟩ := h
  refine (live_unify h1 a b).mono ?_
  rintro e w' ⟨err, c', rfl, k0, k1, k2⟩
  exact ⟨err, c', rfl, k0, ⟨M, k1, h2⟩, only_low h3 k2 h3.size h2⟩
theorem own_alike (h : Own w0 g N c w) (a b : Nat) (ha : a < N.length) (hb : b < N.length) : Calls Try.prog 19 #[.pointer (some ⟨g, 0, none⟩), .int .i64 (a : Int), .int .i64 (b : Int)] w fun e w' => (∃ r : Bool, e = .returned (.bool r) ∧ (r = true ↔ AlikeIn N c a b)) ∧ Own w0 g N c w' := by
  obtain ⟨⟨M, h1, h2⟩, h3⟩ := h
  refine (live_alike h1 a b ha hb).mono ?_
  rintro e w' ⟨k0, k1, k2⟩
  exact ⟨k0, ⟨M, k1, h2⟩, only_low h3 k2 h3.size h2⟩
theorem own_size (h : Own w0 g N c w) (i : Nat) (hi : i < N.length) (T : Fo) (hT : TreeOf N c [i] T) : Calls Try.prog 13 #[.pointer (some ⟨g, 0, none⟩), .int .i64 (i : Int)] w fun e w' => e = .returned (.int .i64 (capped T.cnt : Int)) ∧ Own w0 g N c w' := by
  have h' := h
  obtain ⟨⟨M, h1, h2⟩, h3⟩ := h
  refine (live_size h1 (i : Int) (capped T.cnt : Int) (.inr ⟨by simp [allIn]; omega, T, by simpa using hT, rfl⟩)).mono ?_
  rintro e w' ⟨rfl, hb⟩
  exact ⟨rfl, h'.keep hb⟩
end

theorem OwnMade.yes {w0 w : World} {g : Nat} {N : List Nd} {kind : Int} {name : ByteArray} {xs : List Int} {e : Ending} (h : OwnMade w0 g N (fun i => i) kind name xs e w) (he : makeErr N.length kind name xs = 0) : e = .returned (.tuple #[.int .i64 (N.length : Int), .int .i64 0]) ∧ Own w0 g (N ++ [⟨kind, name, xs.map Int.toNat⟩]) (fun i => i) w := by
  unfold OwnMade makeV makeN makeC at h
  rw [he, if_pos rfl, if_pos rfl, if_pos rfl, addC_id] at h
  exact h
theorem name_ok : kindL bInt.toList = 1 ∧ kindL bList.toList = 1 := by constructor <;> kernel_rfl
set_option maxRecDepth 100000 in
set_option maxHeartbeats 4000000 in
theorem alive_any (w : World) : Calls Try.prog 9 #[] w fun e w' => e = .returned (.bool true) ∧ Below w.heap.size w w' := by
  go_enter Try.func9, Try.ntmps9
  go_wp2_with fail
  refine (own_new w w (Below.refl _ _)).mono ?_
  rintro e w1 ⟨rfl, h1⟩
  have H1 := hide h1; clear h1
  go_wp2_with fail
  refine (own_var H1.out (by decide)).mono ?_
  rintro e w2 ⟨rfl, h2⟩
  rw [show ([] : List Nd).length = 0 from rfl, addC_id] at h2
  have H2 := hide h2; clear h2
  go_wp2_with fail
  refine (own_var H2.out (by decide)).mono ?_
  rintro e w3 ⟨rfl, h3⟩
  rw [addC_id] at h3
  have H3 := hide h3; clear h3
  go_wp2_with fail
  refine (own_con H3.out bInt none 0 [] (fun h => absurd rfl h) (by decide) (by decide) (by decide)).mono ?_
  intro e w4 hp4
  obtain ⟨rfl, h4⟩ := hp4.yes (by unfold makeErr; rw [if_neg (by simp [allIn]), if_neg (by simp [name_ok.1])])
  have H4 := hide h4; clear h4 hp4
  go_wp2_with fail
  refine (own_arrow H4.out 0 0 (by decide)).mono ?_
  intro e w5 hp5
  obtain ⟨rfl, h5⟩ := hp5.yes (by decide)
  have H5 := hide h5; clear h5 hp5
  go_wp2_with fail
  refine (own_arrow H5.out 2 1 (by decide)).mono ?_
  intro e w6 hp6
  obtain ⟨rfl, h6⟩ := hp6.yes (by decide)
  have H6 := hide h6; clear h6 hp6
  go_wp2_with fail
  refine (own_con (H6.out.keep ((Below.refl _ _).alloc (Nat.le_refl _) _)) bList (some ⟨w6.heap.size, 0, none⟩) 1 [0] (ints_one w6 0 _) (by decide) (by decide) (by decide)).mono ?_
  intro e w7 hp7
  obtain ⟨rfl, h7⟩ := hp7.yes (by unfold makeErr; rw [if_neg (by decide), if_neg (by simp [name_ok.2])])
  have H7 : Hid (Own w w.heap.size N6 (fun i => i) w7) := hide h7
  clear h7 hp7
  go_wp2_with fail
  refine (own_unify H7.out 0 5).mono ?_
  rintro e w8 ⟨err, c8, rfl, hs8, h8⟩
  obtain ⟨rfl, rfl⟩ := alive_cycle hs8 (by obtain ⟨⟨M, k, _⟩, _⟩ := h8; exact k.acyc)
  have H8 := hide h8; clear h8 hs8
  go_wp2_with fail
  refine (own_unify H8.out 3 4).mono ?_
  rintro e w9 ⟨err, c9, rfl, hs9, h9⟩
  obtain ⟨rfl, h34⟩ := alive_ok hs9
  have H9 := hide h9; have H34 := hide h34; clear h9 hs9 h34
  have Hw9 : Hid (Wf N6 ∧ Closed N6 c9) := hide (by obtain ⟨⟨M, k, _⟩, _⟩ := H9.out; exact ⟨k.wf, k.closed⟩)
  go_wp2_with fail
  have hb9 : Below w9.heap.size w9 (w9.alloc (Obj.cells #[.int .i64 1, .int .i64 5] 3)) := (Below.refl _ _).alloc (Nat.le_refl _) _
  obtain ⟨⟨M, kL, kM⟩, kB⟩ := H9.out.keep hb9
  obtain ⟨T, hT⟩ := kL.tree [1, 5] (by decide)
  have hTe := alive_tree Hw9.out.1 Hw9.out.2 H34.out hT
  have htypes := live_types kL (some ⟨w9.heap.size, 0, none⟩) 2 [1, 5] (ints_two w9 1 5 _) (by decide) (by decide) T hT (fun x hx B hB => (alive_small Hw9.out.1 Hw9.out.2 H34.out (by simpa using hx) hB).1)
  have hren : ren T = .con 2 bInt .nil (.con 2 bList (.con 2 bInt .nil .nil) .nil) := by rw [hTe]; rfl
  rw [hren] at htypes
  have HB := hide (H9.out.keep hb9)
  clear kL kM kB hT hTe hren hb9
  refine htypes.mono ?_
  rintro e w10 ⟨A, cp, rfl, hat, hb10⟩
  have H10 := hide (HB.out.keep hb10)
  obtain ⟨b, off, rfl, hn1, hn2⟩ : ∃ b off, A = some ⟨b, off, none⟩ ∧ w10.cell? ⟨b, off + 2, none⟩ = some (.string bInt) ∧ w10.cell? ⟨b, off + 6, none⟩ = some (.string bList) := by
    rcases hat with h | ⟨b, off, cs, e1, -, hc, hcell⟩
    · cases h
    · obtain ⟨A1, c1, r1, rfl, -, A2, c2, r2, rfl, -, -⟩ := hc
      exact ⟨b, off, e1, hcell 2 _ rfl, hcell 6 _ rfl⟩
  clear hat hb10 htypes
  have q1 : bInt.toList = [105, 110, 116] := by kernel_rfl
  have q2 : bList.toList = [108, 105, 115, 116] := by kernel_rfl
  go_wp2_with fail
  refine (own_alike H10.out 1 2 (by decide) (by decide)).mono ?_
  rintro e w11 ⟨⟨r, rfl, hr⟩, h11⟩
  obtain rfl : r = true := hr.2 (alive_yes Hw9.out.2 H34.out)
  have H11 := hide h11; clear h11 hr
  go_wp2_with fail
  refine (own_alike H11.out 3 2 (by decide) (by decide)).mono ?_
  rintro e w12 ⟨⟨r, rfl, hr⟩, h12⟩
  obtain rfl : r = false := by
    cases r with
    | false => rfl
    | true => exact absurd (hr.1 rfl) (alive_no c9)
  have H12 := hide h12; clear h12 hr
  go_wp2_with fail
  obtain ⟨T5, hT5⟩ : ∃ T5, TreeOf N6 c9 [5] T5 := by
    obtain ⟨⟨M, k, _⟩, _⟩ := H12.out
    exact k.tree [5] (by decide)
  have hc5 := (alive_small Hw9.out.1 Hw9.out.2 H34.out (.inr rfl) hT5).2 rfl
  refine (own_size H12.out 5 (by decide) T5 hT5).mono ?_
  rw [hc5]
  rintro e w13 ⟨rfl, h13⟩
  have H13 := hide h13; clear h13
  have q3 : (capped 2 : Int) = 2 := rfl
  go_wp2_with fail
  refine (own_len_ H13.out).mono ?_
  rintro e w14 ⟨rfl, rfl⟩
  have q4 : (N6.length : Int) = 6 := rfl
  go_wp2
  go_ret
  exact ⟨rfl, H13.out.below⟩
end Go.Proofs.Ytafpbdmggnfdnaa

/- The walk of the law UnifyChain. -/
namespace Go.Proofs.Ytafpbdmggnfdnaa
open Go.RowKit
set_option linter.unusedVariables false

theorem alike_of {N : List Nd} {c : Nat → Nat} {a b : Nat} (hcl : Closed N c) (h : c a = c b) : AlikeIn N c a b := ⟨c, ⟨fun _ _ _ _ e => e, h, hcl⟩, Still.refl _ _⟩
theorem Two.closed {K : Nat → Prop} {w0 w : World} {g : Nat} {N N' : List Nd} {c c' : Nat → Nat} {v : Value} (h : Two K w0 g N c v N' c' w) : Closed N c := by
  obtain ⟨⟨M, M', h1, h2, h3, h4⟩, h5, h6⟩ := h
  exact h1.closed
/-- What Unify makes alike is alike, and what was stays so. -/
theorem uni_ok {N : List Nd} {c c' : Nat → Nat} {a b : Nat} {err : Int} (h : UniSaid N c (a : Int) (b : Int) err c') (ha : a < N.length) (hb : b < N.length) : Resp N.length c c' ∧ (err = 0 → c' a = c' b) := by
  rcases h with ⟨_, h1, rfl⟩ | ⟨_, ⟨_, hl⟩ | ⟨h1, rfl, _⟩ | ⟨h1, rfl, _⟩⟩
  · exact ⟨fun _ _ _ _ e => e, fun e => by omega⟩
  · have := hl.good.ab
    simp only [Int.toNat_natCast] at this
    exact ⟨hl.good.resp, fun _ => this⟩
  · exact ⟨fun _ _ _ _ e => e, fun e => by omega⟩
  · exact ⟨fun _ _ _ _ e => e, fun e => by omega⟩
theorem two_alike_yes {K : Nat → Prop} {w0 w : World} {g : Nat} {N N' : List Nd} {c c' : Nat → Nat} {v : Value} (h : Two K w0 g N c v N' c' w) (a b : Nat) (ha : a < N.length) (hb : b < N.length) (he : c a = c b) : Calls Try.prog 19 #[.pointer (some ⟨g, 0, none⟩), .int .i64 (a : Int), .int .i64 (b : Int)] w fun e w' => e = .returned (.bool true) ∧ Two K w0 g N c v N' c' w' ∧ Keeps K w w' := by
  refine (two_alike h a b ha hb).mono ?_
  rintro e w' ⟨⟨r, rfl, hr⟩, h1, h2⟩
  have : r = true := hr.2 (alike_of h.closed he)
  subst this
  exact ⟨rfl, h1, h2⟩
/-- Two stores, and three numbers in memory that is neither's. -/
def TwoAt (K : Nat → Prop) (w0 : World) (g : Nat) (N : List Nd) (c : Nat → Nat) (v : Value) (c' : Nat → Nat) (bB oB i j k x y z : Nat) (w : World) : Prop :=
  Two K w0 g N c v N c' w ∧ w.cell? ⟨bB, oB + i, none⟩ = some (.int .i64 (x : Int)) ∧ w.cell? ⟨bB, oB + j, none⟩ = some (.int .i64 (y : Int)) ∧ w.cell? ⟨bB, oB + k, none⟩ = some (.int .i64 (z : Int))
theorem TwoAt.alike {K : Nat → Prop} {w0 w : World} {g : Nat} {N : List Nd} {c c' : Nat → Nat} {v : Value} {bB oB i j k x y z : Nat} (h : TwoAt K w0 g N c v c' bB oB i j k x y z w) (hK : K bB) (a b : Nat) (ha : a < N.length) (hb : b < N.length) (he : c a = c b) : Calls Try.prog 19 #[.pointer (some ⟨g, 0, none⟩), .int .i64 (a : Int), .int .i64 (b : Int)] w fun e w' => e = .returned (.bool true) ∧ TwoAt K w0 g N c v c' bB oB i j k x y z w' := by
  obtain ⟨h0, h1, h2, h3⟩ := h
  refine (two_alike_yes h0 a b ha hb he).mono ?_
  rintro e w' ⟨rfl, k0, k1⟩
  have e1 := k1.2 bB hK
  exact ⟨rfl, k0, (World.cell?_of_block (a := ⟨bB, oB + i, none⟩) e1).trans h1, (World.cell?_of_block (a := ⟨bB, oB + j, none⟩) e1).trans h2, (World.cell?_of_block (a := ⟨bB, oB + k, none⟩) e1).trans h3⟩
set_option maxRecDepth 100000 in
set_option maxHeartbeats 4000000 in
theorem unifyChain_walk (A : Option Addr) (cap : Nat) (ops0 : List OpV) (a b c : Int) (w : World) (hA : OpsAt w A ops0) (hl : OpsLen ops0) (hcap : ops0.length ≤ cap) :
    Calls Try.prog 7 #[.slice A ops0.length cap, .int .i64 a, .int .i64 b, .int .i64 c] w fun e w' => e = .returned (.bool true) ∧ Below w.heap.size w w' := by
  obtain ⟨ops, hops⟩ : ∃ ops, ops0.take 60 = ops := ⟨_, rfl⟩
  have h60 : ops.length ≤ 60 := by rw [← hops, List.length_take]; omega
  have hA' : OpsAt w A ops := by rw [← hops]; exact hA.take 60
  have hl' : OpsLen ops := by
    rw [← hops]
    exact ⟨by rw [List.length_take]; have := hl.1; omega, fun o ho => hl.2 o (List.mem_of_mem_take ho)⟩
  have HC := hide (fun W (hW : Below w.heap.size w W) => cut_any W A cap ops0 (hA.below hW) hl hcap)
  rw [hops] at HC
  have HG := hide (fun W (hW : Below w.heap.size w W) => heavy_any W A cap ops (hA'.below hW) hl' h60)
  have HA := hide hA'; have Hl := hide hl'
  clear hops hA hl hA' hl'
  go_enter Try.func7, Try.ntmps7
  go_wp2_with fail
  refine (alive_any _).mono ?_
  rintro e w1 ⟨rfl, hb1⟩
  have Hb1 := hide hb1
  clear hb1
  go_wp2_with fail
  refine (HC.out w1 Hb1.out).mono ?_
  rintro e w2 ⟨rfl, rfl⟩
  go_wp2_with fail
  refine (HG.out w1 Hb1.out).mono ?_
  rintro e w2 ⟨rfl, hb2⟩
  have Hb2 := hide (Hb1.out.trans (hb2.mono Hb1.out.size))
  clear hb2
  cases hh : heavyB ops
  · have Hfit : Hid (OpsFit ops) := hide (weight_fit h60 (by unfold heavyB at hh; simpa using hh))
    clear hh
    go_wp2_with fail
    refine (runs_any w2 A cap ops (HA.out.below Hb2.out) Hfit.out).mono ?_
    rintro e w3 ⟨g, v, B, mcap, N, made, d, d', rfl, hr, hr', hT, hM⟩
    obtain ⟨Av, vcap, hv⟩ := hT.facts.2.2.2.2
    subst hv
    have Hr := hide hr; have HT := hide hT; have HM := hide hM
    have hml : made.length ≤ 60 := by have := hr.facts.2.2.2; simp at this; omega
    clear hr hr' hT hM
    by_cases hin : (0 ≤ a ∧ a < (made.length : Int)) ∧ (0 ≤ b ∧ b < (made.length : Int)) ∧ (0 ≤ c ∧ c < (made.length : Int))
    · obtain ⟨⟨ha0, ha1⟩, ⟨hb0, hb1⟩, ⟨hc0, hc1⟩⟩ := hin
      obtain ⟨a, rfl⟩ : ∃ n : Nat, a = n := ⟨a.toNat, by omega⟩
      obtain ⟨b, rfl⟩ : ∃ n : Nat, b = n := ⟨b.toNat, by omega⟩
      obtain ⟨c, rfl⟩ : ∃ n : Nat, c = n := ⟨c.toNat, by omega⟩
      have ka : a < made.length := by omega
      have kb : b < made.length := by omega
      have kc : c < made.length := by omega
      obtain ⟨bB, oB, hB, hBl, c0⟩ := HM.out.at_ a (by simpa [cast] using ka)
      obtain ⟨bB', oB', e', -, c1⟩ := HM.out.at_ b (by simpa [cast] using kb)
      obtain ⟨rfl, rfl⟩ : bB = bB' ∧ oB = oB' := by rw [hB] at e'; injection e' with e'; injection e' with e1 e2; exact ⟨e1, e2⟩
      obtain ⟨bB', oB', e2', -, c2⟩ := HM.out.at_ c (by simpa [cast] using kc)
      obtain ⟨rfl, rfl⟩ : bB = bB' ∧ oB = oB' := by rw [hB] at e2'; injection e2' with e'; injection e' with e1 e2; exact ⟨e1, e2⟩
      simp only [cast, List.getElem_map] at c0 c1 c2
      obtain ⟨x, hx⟩ : ∃ x, made[a] = x := ⟨_, rfl⟩
      obtain ⟨y, hy⟩ : ∃ x, made[b] = x := ⟨_, rfl⟩
      obtain ⟨z, hz⟩ : ∃ x, made[c] = x := ⟨_, rfl⟩
      have hxn : x < N.length := Hr.out.facts.1 x (by rw [← hx]; exact List.getElem_mem _)
      have hyn : y < N.length := Hr.out.facts.1 y (by rw [← hy]; exact List.getElem_mem _)
      have hzn : z < N.length := Hr.out.facts.1 z (by rw [← hz]; exact List.getElem_mem _)
      rw [hx] at c0; rw [hy] at c1; rw [hz] at c2
      have HKB : Hid (∃ x, B = some x ∧ x.block = bB) := hide ⟨_, hB, rfl⟩
      have hb4 : Below w3.heap.size w3 (w3.alloc (.cells #[.slice Av N.length vcap] 29)) := (Below.refl _ _).alloc (Nat.le_refl _) _
      have p0 := (hb4.cell (p := ⟨bB, oB + a, none⟩) hBl).trans c0
      have p1 := (hb4.cell (p := ⟨bB, oB + b, none⟩) hBl).trans c1
      have p2 := (hb4.cell (p := ⟨bB, oB + c, none⟩) hBl).trans c2
      have HT4 := hide (HT.out.later hb4)
      subst hB
      clear hx hy hz e' e2' c0 c1 c2 hb4 hcap
      go_upto_region 11 with fail
      obtain ⟨w4, hw4⟩ : ∃ w4, w3.alloc (.cells #[.slice Av N.length vcap] 29) = w4 := ⟨_, rfl⟩
      rw [hw4] at p0 p1 p2 HT4
      simp only [hw4]
      clear hw4
      have HU := hide (fun n => two_unify (HT4.out.drewN n) (x : Int) (y : Int))
      have HU1 := hide (two_unify HT4.out (x : Int) (y : Int))
      go_region_held3 (fun w' => w'.cell? ⟨bB, oB + a, none⟩ = some (.int .i64 (x : Int)) ∧ w'.cell? ⟨bB, oB + b, none⟩ = some (.int .i64 (y : Int)) ∧ w'.cell? ⟨bB, oB + c, none⟩ = some (.int .i64 (z : Int))) (go_keep)
        (first | (go_at_call 23; first | refine HU1.out.mono ?_ | refine (HU.out 1).mono ?_; rintro e w5 ⟨ev, d1, rfl, hu5, hT5, hk5⟩; have r0 := (World.cell?_of_block (a := ⟨bB, oB + a, none⟩) (hk5.2 bB HKB.out)).trans p0; have r1 := (World.cell?_of_block (a := ⟨bB, oB + b, none⟩) (hk5.2 bB HKB.out)).trans p1; have r2 := (World.cell?_of_block (a := ⟨bB, oB + c, none⟩) (hk5.2 bB HKB.out)).trans p2))
      rename_i hHeld
      clear hHeld p0 p1 p2 hk5 HU HU1
      have hbe5 := Hb2.out.trans (hT5.below.mono Hb2.out.size)
      have Hbe5 := hide hbe5; have HT5 := hide hT5; have Hu5 := hide hu5
      clear hbe5 hT5 hu5
      by_cases hev : ev = 0
      · subst hev
        have Hxy : Hid (d1 x = d1 y) := hide ((uni_ok Hu5.out hxn hyn).2 rfl)
        go_upto_region 13 with fail
        have HU := hide (two_unify (HT5.out.drewN 1) (y : Int) (z : Int))
        go_region_held3 (fun w' => w'.cell? ⟨bB, oB + a, none⟩ = some (.int .i64 (x : Int)) ∧ w'.cell? ⟨bB, oB + b, none⟩ = some (.int .i64 (y : Int)) ∧ w'.cell? ⟨bB, oB + c, none⟩ = some (.int .i64 (z : Int))) (go_keep)
          (first | (go_at_call 23; refine HU.out.mono ?_; rintro e w6 ⟨ev, d2, rfl, hu6, hT6, hk6⟩; have s0 := (World.cell?_of_block (a := ⟨bB, oB + a, none⟩) (hk6.2 bB HKB.out)).trans r0; have s1 := (World.cell?_of_block (a := ⟨bB, oB + b, none⟩) (hk6.2 bB HKB.out)).trans r1; have s2 := (World.cell?_of_block (a := ⟨bB, oB + c, none⟩) (hk6.2 bB HKB.out)).trans r2))
        rename_i hHeld
        clear hHeld r0 r1 r2 hk6 HU
        have Hbe6 := hide (Hb2.out.trans (hT6.below.mono Hb2.out.size)); have HT6 := hide hT6; have Hu6 := hide hu6
        have Hxy2 : Hid (d2 x = d2 y) := hide ((uni_ok hu6 hyn hzn).1 x y hxn hyn Hxy.out)
        have Hyz : Hid (ev = 0 → d2 y = d2 z) := hide (uni_ok hu6 hyn hzn).2
        clear hT6 hu6
        have HTK6 : Hid (TwoAt (fun b => ∃ x, some (⟨bB, oB, none⟩ : Addr) = some x ∧ x.block = b) w2 g N d2 (.slice Av N.length vcap) d' bB oB a b c x y z (w6.drewN 1)) := hide ⟨HT6.out.drewN 1, s0, s1, s2⟩
        have HAl := hide (fun W (p q : Nat) (h : TwoAt (fun b => ∃ x, some (⟨bB, oB, none⟩ : Addr) = some x ∧ x.block = b) w2 g N d2 (.slice Av N.length vcap) d' bB oB a b c x y z W) (he : d2 p = d2 q) (hp : p < N.length) (hq : q < N.length) => h.alike HKB.out p q hp hq he)
        go_upto_region 14 with fail
        go_region_held3 (fun w' => w'.cell? ⟨bB, oB + a, none⟩ = some (.int .i64 (x : Int)) ∧ w'.cell? ⟨bB, oB + b, none⟩ = some (.int .i64 (y : Int)) ∧ w'.cell? ⟨bB, oB + c, none⟩ = some (.int .i64 (z : Int))) (go_keep)
          (first | (go_at_call 19; refine (HAl.out _ _ _ (by first | exact HTK.out | exact HTK6.out) (by first | exact Hxy2.out | exact Hxy2.out.symm) (by first | exact hxn | exact hyn) (by first | exact hxn | exact hyn)).mono ?_; rintro e w7 ⟨rfl, hTK⟩; obtain ⟨q0, q1, q2⟩ := hTK.2; have HTK := hide hTK; clear hTK))
        have HT8 := hide HTK.out.1
        obtain ⟨t0, t1, t2⟩ := HTK.out.2
        rename_i hHeld
        clear hHeld s0 s1 s2
        have Hbe8 := hide (Hb2.out.trans (HT8.out.below.mono Hb2.out.size))
        by_cases hev : ev = 0
        · subst hev
          have Hxz : Hid (d2 x = d2 z) := hide (Hxy2.out.trans (Hyz.out rfl))
          go_upto_region 16 with fail
          go_region_held3 (fun w' => w'.cell? ⟨bB, oB + a, none⟩ = some (.int .i64 (x : Int)) ∧ w'.cell? ⟨bB, oB + b, none⟩ = some (.int .i64 (y : Int)) ∧ w'.cell? ⟨bB, oB + c, none⟩ = some (.int .i64 (z : Int))) (go_keep)
            (first | (go_at_call 19; refine (two_alike_yes (HT8.out.drewN 1) x z hxn hzn Hxz.out).mono ?_; rintro e w9 ⟨rfl, hT9, hk9⟩; have m0 := (World.cell?_of_block (a := ⟨bB, oB + a, none⟩) (hk9.2 bB HKB.out)).trans t0; have m1 := (World.cell?_of_block (a := ⟨bB, oB + b, none⟩) (hk9.2 bB HKB.out)).trans t1; have m2 := (World.cell?_of_block (a := ⟨bB, oB + c, none⟩) (hk9.2 bB HKB.out)).trans t2; have HT9 := hide hT9; clear hT9 hk9))
          have Hbe9 := hide (Hb2.out.trans (HT9.out.below.mono Hb2.out.size))
          go_wp2
          go_ret
          exact ⟨rfl, Hbe9.out⟩
        · have k1 : (ev != 0) = true := by simpa using hev
          clear hev
          go_upto_region 16 with fail
          go_quiet (fail)
          go_wp2
          go_ret
          exact ⟨rfl, below_drewN Hbe8.out _⟩
      · have k1 : (ev != 0) = true := by simpa using hev
        clear hev
        go_wp2
        go_ret
        exact ⟨rfl, Hbe5.out⟩
    · have Hbe : Hid (Below w.heap.size w w3) := hide (Hb2.out.trans (HT.out.below.mono Hb2.out.size))
      rcases (show a < 0 ∨ (0 ≤ a ∧ b < 0) ∨ (0 ≤ a ∧ 0 ≤ b ∧ c < 0) ∨ (0 ≤ a ∧ 0 ≤ b ∧ 0 ≤ c ∧ (made.length : Int) ≤ a) ∨ (0 ≤ a ∧ 0 ≤ b ∧ 0 ≤ c ∧ a < (made.length : Int) ∧ (made.length : Int) ≤ b) ∨ (0 ≤ a ∧ 0 ≤ b ∧ 0 ≤ c ∧ a < (made.length : Int) ∧ b < (made.length : Int) ∧ (made.length : Int) ≤ c) by omega) with h1 | ⟨h1, h2⟩ | ⟨h1, h2, h3⟩ | ⟨h1, h2, h3, h4⟩ | ⟨h1, h2, h3, h4, h5⟩ | ⟨h1, h2, h3, h4, h5, h6⟩
      all_goals
        clear hin
        go_wp2
        go_ret
        exact ⟨rfl, Hbe.out.alloc (by have := Hbe.out.size; omega) _⟩
  · go_wp2
    go_ret
    exact ⟨rfl, Hb2.out⟩
end Go.Proofs.Ytafpbdmggnfdnaa

/- An argument that is a script, or a slice of integers, opened to cells; lengths by the form's reach. -/
namespace Go.Proofs.Ytafpbdmggnfdnaa
open Go.ChangeShapes Go.WideShapes Go.ChangeAt Go.RowKit Go.Deep
set_option linter.unusedVariables false

def opCell (o : OpV) : List Value := [.int .i64 o.what, .string o.name, .slice o.ad o.args.length o.cap]
section
variable {H : Type} {enc : TypeId × Value → H} {w : World} {base : Nat} {spare : Nat → Bool} {held : Bool}
theorem bytes_int : Try.prog.bytesOf 3 = 8 := by kernel_rfl
theorem bytes_op : Try.prog.bytesOf 63 = 48 := by kernel_rfl
theorem cells_int : Try.prog.cellsOf 3 = 1 := by kernel_rfl
set_option maxRecDepth 100000 in
theorem ints_read {n : Nat} {cs : List Value} {x : DataW H × List MemPlace} (h : DataW.trod enc Try.prog w base spare held n 30 cs = some x) (hs : ∀ k ∈ x.1.weights Try.prog 30, k ≤ reachBytes) :
    ∃ (A : Option Addr) (xs : List Int) (c : Nat), cs = [.slice A xs.length c] ∧ Ints w A xs ∧ xs.length ≤ 140737488351232 ∧ xs.length ≤ c := by
  rcases open_slice1 Try.underlying30 cells_int h with ⟨hcs, _⟩ | ⟨a, len, cap, m, k, V, D, Pl, hcs, _, hl, hm, hmm, hx, hi⟩
  · exact ⟨none, [], 0, by rw [hcs]; rfl, fun h => absurd rfl h, by simp, by simp⟩
  · have hlm : len ≤ m := by rw [hmm]; split <;> omega
    have hall : ∀ i, i < len → ∃ z : Int, w.cell? (a.add i) = some (.int .i64 z) := by
      intro i hi'
      obtain ⟨h1, h2⟩ := hi i (by omega)
      obtain ⟨z, ez, _⟩ := DataW.trod_int Try.underlying3 h2
      exact ⟨z, by rw [h1]; simp at ez; rw [ez]⟩
    have hlist : ∀ k, k ≤ len → ∃ xs : List Int, xs.length = k ∧ ∀ i z, xs[i]? = some z → w.cell? (a.add i) = some (.int .i64 z) := by
      intro k
      induction k with
      | zero => intro _; exact ⟨[], rfl, by simp⟩
      | succ k ih =>
        intro hk
        obtain ⟨xs, hxl, hc⟩ := ih (by omega)
        obtain ⟨z, hz⟩ := hall k (by omega)
        refine ⟨xs ++ [z], by simp [hxl], fun i y hy => ?_⟩
        by_cases hil : i < xs.length
        · rw [List.getElem?_append_left hil] at hy; exact hc i y hy
        · have : i = xs.length := by
            have := (List.getElem?_eq_some_iff.1 hy).1
            simp at this; omega
          subst this
          simp at hy
          subst hy; rw [hxl]; exact hz
    obtain ⟨xs, hxl, hc⟩ := hlist len (Nat.le_refl _)
    have hsz : (len + (m - len)) * 8 ≤ reachBytes := by
      refine hs _ ?_
      rw [hx]
      simp [DataW.weights, Try.underlying30, bytes_int]
    refine ⟨some a, xs, cap, by rw [hcs, hxl], fun hne => ?_, by unfold reachBytes at hsz; omega, by omega⟩
    have hpos := List.length_pos_iff.2 hne
    obtain ⟨b, off, sp⟩ := a
    have h0 := hc 0 xs[0] (List.getElem?_eq_getElem hpos)
    have hsp : sp = none := by simpa [Addr.add] using World.cell?_spot h0
    subst hsp
    refine ⟨b, off, rfl, ?_, fun k x hk => ?_⟩
    · have := World.block_lt_of_cell? w _ h0
      rwa [addr_add'] at this
    · have := hc k x hk
      rwa [addr_add'] at this
set_option maxRecDepth 100000 in
theorem op_read {n : Nat} {cs : List Value} {x : DataW H × List MemPlace} (h : DataW.trod enc Try.prog w base spare held n 63 cs = some x) (hs : ∀ k ∈ x.1.weights Try.prog 63, k ≤ reachBytes) :
    ∃ o : OpV, cs = opCell o ∧ Ints w o.ad o.args ∧ o.args.length ≤ 140737488351232 ∧ o.name.size ≤ 140737488351232 := by
  obtain ⟨xs, m, _, hx, hl, hxl, hf⟩ := DataW.trod_struct Try.underlying63 h
  rw [show Try.prog.cellsOf 63 = 3 by kernel_rfl] at hl
  match cs, hl with
  | [c0, c1, c2], _ =>
    have hc2 : Try.prog.cellsOf 9 = 1 := by kernel_rfl
    have hc3 : Try.prog.cellsOf 30 = 1 := by kernel_rfl
    have h0 : DataW.trod enc Try.prog w base spare held m 3 [c0] = xs[0]? := by
      have h := hf 0 _ rfl
      refine Eq.trans ?_ h
      show _ = DataW.trod enc Try.prog w base spare held m 3 (([c0, c1, c2].drop 0).take (Try.prog.cellsOf 3))
      rw [cells_int]; rfl
    have h1 : DataW.trod enc Try.prog w base spare held m 9 [c1] = xs[1]? := by
      have h := hf 1 _ rfl
      refine Eq.trans ?_ h
      show _ = DataW.trod enc Try.prog w base spare held m 9 (([c0, c1, c2].drop 1).take (Try.prog.cellsOf 9))
      rw [hc2]; rfl
    have h2 : DataW.trod enc Try.prog w base spare held m 30 [c2] = xs[2]? := by
      have h := hf 2 _ rfl
      refine Eq.trans ?_ h
      show _ = DataW.trod enc Try.prog w base spare held m 30 (([c0, c1, c2].drop 2).take (Try.prog.cellsOf 30))
      rw [hc3]; rfl
    have hx3 : xs.length = 3 := by rw [hxl]; rfl
    match xs, hx3 with
    | [x0, x1, x2], _ =>
      simp only [List.getElem?_cons_zero, List.getElem?_cons_succ] at h0 h1 h2
      have hw : ∀ k, k ∈ x1.1.weights Try.prog 9 ∨ k ∈ x2.1.weights Try.prog 30 → k ≤ reachBytes := by
        intro k hk
        refine hs k ?_
        rw [hx]
        simp only [DataW.weights, Try.underlying63, List.map_cons, List.map_nil]
        have e1 : k ∈ DataW.weightsEach Try.prog [3, 9, 30] [x0.1, x1.1, x2.1] := by
          simp only [DataW.weightsEach, List.mem_append, List.not_mem_nil, or_false]
          exact .inr hk
        exact e1
      obtain ⟨a, ea, _⟩ := DataW.trod_int Try.underlying3 h0
      obtain ⟨s, es, exs, _⟩ := DataW.trod_string Try.underlying9 h1
      obtain ⟨A, zs, cc, ec, hI, hzl, _⟩ := ints_read h2 (fun k hk => hw k (.inr hk))
      have hss : s.size ≤ 140737488351232 := by
        have := hw s.size (.inl (by rw [exs]; simp [DataW.weights]))
        unfold reachBytes at this; exact this
      refine ⟨⟨a, s, zs, A, cc⟩, ?_, hI, hzl, hss⟩
      simp at ea es ec
      rw [ea, es, ec]; rfl
set_option maxRecDepth 100000 in
theorem open_ops {W : World} {r : Reach} {b0 : Nat} {v : Value} {d : DataW H} {p : List MemPlace} (hv : Value.okWide Try.prog W r b0 22 v) (h : DataW.Trod enc Try.prog W base spare held 22 v d p) (hs : ∀ k ∈ d.weights Try.prog 22, k ≤ reachBytes) :
    ∃ (A : Option Addr) (c : Nat) (ops : List OpV), v = .slice A ops.length c ∧ OpsAt W A ops ∧ OpsLen ops ∧ ops.length ≤ c := by
  obtain ⟨a0, len0, cap0, rfl⟩ := okWide_slice Try.underlying22 hv
  obtain ⟨fuel, hf⟩ := h
  rcases open_slice Try.underlying22 hf with ⟨hcs, _⟩ | ⟨a, len, cap, m, n, D, Pl, hcs, _, hl, hm, hmm, hx, hi⟩
  · simp [Value.cells] at hcs
    obtain ⟨rfl, rfl, rfl⟩ := hcs
    exact ⟨none, 0, [], rfl, fun h => absurd rfl h, ⟨by simp, by simp⟩, by simp⟩
  · simp [Value.cells] at hcs
    obtain ⟨rfl, rfl, rfl⟩ := hcs
    have hlm : len0 ≤ m := by rw [hmm]; split <;> omega
    have h3 : Try.prog.cellsOf 63 = 3 := by kernel_rfl
    have hd : d = .slice ((List.range len0).map D) ((List.range (m - len0)).map fun j => D (len0 + j)) := by injection hx
    have hsz : (len0 + (m - len0)) * 48 ≤ reachBytes := by
      refine hs _ ?_
      rw [hd]
      simp [DataW.weights, Try.underlying22, bytes_op]
    have hall : ∀ (l : List (DataW H)) (e : DataW H) (k : Nat), e ∈ l → k ∈ e.weights Try.prog 63 → k ∈ DataW.weightsAll Try.prog 63 l := by
      intro l
      induction l with
      | nil => intro e k he; simp at he
      | cons y l ih =>
        intro e k he hk
        simp only [DataW.weightsAll, List.mem_append]
        rcases List.mem_cons.1 he with rfl | he
        · exact .inl hk
        · exact .inr (ih e k he hk)
    have hone : ∀ i, i < len0 → ∃ o : OpV, (Ints W o.ad o.args ∧ o.args.length ≤ 140737488351232 ∧ o.name.size ≤ 140737488351232) ∧ ∀ j u, (opCell o)[j]? = some u → W.cell? (a.add (i * 3 + j)) = some u := by
      intro i hi'
      obtain ⟨cs', hc, ht⟩ := hi i (by omega)
      rw [h3] at hc
      obtain ⟨o, rfl, h4⟩ := op_read ht (fun k hk => hs k (by
        rw [hd]
        have hu : Try.prog.underlying 22 = some (.slice 63) := Try.underlying22
        simp only [DataW.weights, hu, List.mem_cons, List.mem_append]
        exact .inr (.inl (hall _ (D i) k (List.mem_map.2 ⟨i, by simpa using hi', rfl⟩) hk))))
      obtain ⟨_, _, hat⟩ := World.cells?_some hc
      refine ⟨o, h4, fun j u hu => ?_⟩
      have hj : j < 3 := by
        have := (List.getElem?_eq_some_iff.1 hu).1
        simpa [opCell] using this
      have := hat j hj
      rw [Go.Deep.add_add] at this
      rw [this]; exact hu
    have hlist : ∀ k, k ≤ len0 → ∃ ops : List OpV, ops.length = k ∧ (∀ o ∈ ops, Ints W o.ad o.args ∧ o.args.length ≤ 140737488351232 ∧ o.name.size ≤ 140737488351232) ∧ ∀ i (hi : i < ops.length) j u, (opCell ops[i])[j]? = some u → W.cell? (a.add (i * 3 + j)) = some u := by
      intro k
      induction k with
      | zero => intro _; exact ⟨[], rfl, by simp, by simp⟩
      | succ k ih =>
        intro hk
        obtain ⟨ops, hol, hm1, hc⟩ := ih (by omega)
        obtain ⟨o, hom, ho⟩ := hone k (by omega)
        refine ⟨ops ++ [o], by simp [hol], ?_, fun i hi j u hu => ?_⟩
        · intro y hy
          rcases List.mem_append.1 hy with h | h
          · exact hm1 y h
          · simp at h; subst h; exact hom
        · by_cases hj : i < ops.length
          · rw [List.getElem_append_left hj] at hu; exact hc i hj j u hu
          · have he : i = ops.length := by simp at hi; omega
            subst he
            simp at hu
            rw [hol]; exact ho j u hu
    obtain ⟨ops, hol, hm1, hc⟩ := hlist len0 (Nat.le_refl _)
    subst hol
    refine ⟨some a, cap0, ops, rfl, fun hne => ?_, ⟨by unfold reachBytes at hsz; omega, fun o ho => (hm1 o ho).2⟩, by omega⟩
    obtain ⟨b, off, sp⟩ := a
    have hpos := List.length_pos_iff.2 hne
    have h0 := hc 0 hpos 0 _ rfl
    have hsp : sp = none := by simpa [Addr.add] using World.cell?_spot h0
    subst hsp
    refine ⟨b, off, rfl, ?_, fun k hk => ?_⟩
    · have := World.block_lt_of_cell? W _ h0
      rwa [addr_add'] at this
    · have e0 := hc k hk 0 _ rfl
      have e1 := hc k hk 1 _ rfl
      have e2 := hc k hk 2 _ rfl
      rw [addr_add'] at e0 e1 e2
      exact ⟨e0, e1, e2, (hm1 _ (List.getElem_mem hk)).1⟩
set_option maxRecDepth 100000 in
theorem open_ints {W : World} {r : Reach} {b0 : Nat} {v : Value} {d : DataW H} {p : List MemPlace} (hv : Value.okWide Try.prog W r b0 30 v) (h : DataW.Trod enc Try.prog W base spare held 30 v d p) (hs : ∀ k ∈ d.weights Try.prog 30, k ≤ reachBytes) :
    ∃ (A : Option Addr) (c : Nat) (xs : List Int), v = .slice A xs.length c ∧ Ints W A xs ∧ xs.length ≤ 140737488351232 := by
  obtain ⟨a0, len0, cap0, rfl⟩ := okWide_slice Try.underlying30 hv
  obtain ⟨fuel, hf⟩ := h
  obtain ⟨A, xs, c, e, h1, h2, _⟩ := ints_read hf hs
  simp [Value.cells] at e
  obtain ⟨rfl, rfl, rfl⟩ := e
  exact ⟨_, _, xs, rfl, h1, h2⟩
theorem sized_all {ts : List TypeId} {ds : List (DataW H)} (h : (DataW.weightsEach Try.prog ts ds).all (· ≤ reachBytes) = true) {j : Nat} {t : TypeId} {d : DataW H} (ht : ts[j]? = some t) (hd : ds[j]? = some d) : ∀ k ∈ d.weights Try.prog t, k ≤ reachBytes := fun k hk => by
  have := List.all_eq_true.1 h _ (DataW.weights_mem_each ht hd k hk)
  simpa using this
end
end Go.Proofs.Ytafpbdmggnfdnaa
