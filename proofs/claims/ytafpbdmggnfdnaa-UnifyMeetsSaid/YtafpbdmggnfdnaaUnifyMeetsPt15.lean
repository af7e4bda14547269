/- Part 15 of the proof of UnifyMeets: what follows was kept as these texts: LawBase, Alive, AliveWalk, LawChain, SameTypes, PlainMeets. -/
import Derived.Test.YtafpbdmggnfdnaaUnifyMeetsPt1
import Derived.Test.YtafpbdmggnfdnaaUnifyMeetsPt2
import Derived.Test.YtafpbdmggnfdnaaUnifyMeetsPt3
import Derived.Test.YtafpbdmggnfdnaaUnifyMeetsPt4
import Derived.Test.YtafpbdmggnfdnaaUnifyMeetsPt5
import Derived.Test.YtafpbdmggnfdnaaUnifyMeetsPt6
import Derived.Test.YtafpbdmggnfdnaaUnifyMeetsPt7
import Derived.Test.YtafpbdmggnfdnaaUnifyMeetsPt8
import Derived.Test.YtafpbdmggnfdnaaUnifyMeetsPt9
import Derived.Test.YtafpbdmggnfdnaaUnifyMeetsPt10
import Derived.Test.YtafpbdmggnfdnaaUnifyMeetsPt11
import Derived.Test.YtafpbdmggnfdnaaUnifyMeetsPt12
import Derived.Test.YtafpbdmggnfdnaaUnifyMeetsPt13
import Derived.Test.YtafpbdmggnfdnaaUnifyMeetsPt14
import Derived.Deep.RegionHeld3
/- cut, great. -/
namespace Go.Proofs.Ytafpbdmggnfdnaa
open Go.RowKit
set_option linter.unusedVariables false

theorem OpsAt.take {w : World} {A : Option Addr} {ops : List OpV} (h : OpsAt w A ops) (n : Nat) : OpsAt w A (ops.take n) := by
  intro hne
  obtain ⟨b, off, e, hb, hc⟩ := h (by intro e; subst e; simp at hne)
  refine ⟨b, off, e, hb, fun k hk => ?_⟩
  have hk' : k < ops.length := by simp at hk; omega
  have := hc k hk'
  simpa using this
theorem OpsAt.drewN {w : World} {A : Option Addr} {ops : List OpV} (h : OpsAt w A ops) (n : Nat) : OpsAt (w.drewN n) A ops := h
def weight (ops : List OpV) : Nat := (ops.map fun o => o.args.length + o.name.size / 16).sum
theorem weight_fit {ops : List OpV} (hl : ops.length ≤ 60) (hw : weight ops ≤ 500) : OpsFit ops := by
  refine ⟨hl, fun o ho => ?_⟩
  have : o.args.length + o.name.size / 16 ≤ weight ops := by
    clear hl hw
    unfold weight
    induction ops with
    | nil => simp at ho
    | cons p ops ih =>
      rw [List.map_cons, List.sum_cons]
      rcases List.mem_cons.1 ho with rfl | ho
      · omega
      · have := ih ho; omega
  omega
theorem weight_snoc (ops : List OpV) (k : Nat) (hk : k < ops.length) : weight (ops.take (k + 1)) = weight (ops.take k) + (ops[k].args.length + ops[k].name.size / 16) := by
  unfold weight
  rw [List.take_succ_eq_append_getElem hk, List.map_append, List.sum_append]; simp
/-- A script as it is handed in: lengths that can be. -/
def OpsLen (ops : List OpV) : Prop := ops.length ≤ 140737488351232 ∧ ∀ o ∈ ops, o.args.length ≤ 140737488351232 ∧ o.name.size ≤ 140737488351232
set_option maxRecDepth 100000 in
set_option maxHeartbeats 1000000 in
theorem cut_any (w : World) (A : Option Addr) (cap : Nat) (ops : List OpV) (hA : OpsAt w A ops) (hl : OpsLen ops) (hcap : ops.length ≤ cap) :
    Calls Try.prog 10 #[.slice A ops.length cap] w fun e w' => e = .returned (.slice A (ops.take 60).length cap) ∧ w = w' := by
  have h1 := hl.1
  clear hl
  by_cases h : 60 < ops.length
  · have k1 : decide ((60 : Int) < (ops.length : Int)) = true := by simp; omega
    obtain ⟨b, off, rfl, -⟩ := hA (by intro e; rw [e] at h; exact absurd h (by decide))
    have hsl := fun W => run_slice_h (P := Try.prog) W 22 (some ⟨b, off, none⟩) ops.length cap Try.underlying22 .i64 (60 : Int) (by omega) (by omega)
    have HL2 : Hid ((ops.take 60).length = 60) := hide (by rw [List.length_take]; omega)
    go_enter Try.func10, Try.ntmps10
    go_wp2
    go_ret
    exact ⟨by rw [HL2.out]; rfl, rfl⟩
  · have k1 : decide ((60 : Int) < (ops.length : Int)) = false := by simp; omega
    have HL2 : Hid ((ops.take 60).length = ops.length) := hide (by rw [List.length_take]; omega)
    go_enter Try.func10, Try.ntmps10
    go_wp2
    go_ret
    exact ⟨by rw [HL2.out]; rfl, rfl⟩
def heavyB (ops : List OpV) : Bool := decide (500 < weight ops)
set_option maxRecDepth 100000 in
set_option maxHeartbeats 2000000 in
theorem heavy_any (w : World) (A : Option Addr) (cap : Nat) (ops : List OpV) (hA : OpsAt w A ops) (hl : OpsLen ops) (h60 : ops.length ≤ 60) :
    Calls Try.prog 11 #[.slice A ops.length cap] w fun e w' => e = .returned (.bool (heavyB ops)) ∧ Below w.heap.size w w' := by
  have HA := hide hA; have HL := hide hl
  clear hA hl
  go_enter Try.func11, Try.ntmps11
  go_wp2
  go_loopw [3, 4] (fun vn vi wr => ∃ (k n : Nat), vi = .int .i64 k ∧ vn = .int .i64 n ∧ k ≤ ops.length ∧ n ≤ k * 1000000000000000 ∧ Hid (n = weight (ops.take k)) ∧ Hid (Below w.heap.size w wr)) (fun _ vi _ => ops.length - (intOf vi).toNat)
  case atStart => exact ⟨0, 0, rfl, rfl, by omega, by omega, hide rfl, hide (Below.refl _ _)⟩
  case round =>
    obtain ⟨k, n, rfl, rfl, hk, hn, HN, HB⟩ := hrel
    by_cases hlt : k < ops.length
    · obtain ⟨b, off, rfl, hb, d0, d1, d2, -⟩ := HA.out.at_ k hlt
      have hfit := HL.out.2 ops[k] (List.getElem_mem hlt)
      have Hw := hide (weight_snoc ops k hlt)
      obtain ⟨o, ho⟩ : ∃ o, ops[k] = o := ⟨_, rfl⟩
      rw [ho] at d0 d1 d2 hfit Hw
      have e1 := (HB.out.cell (p := ⟨b, off + k * 3 + 1, none⟩) hb).trans d1
      have e2 := (HB.out.cell (p := ⟨b, off + k * 3 + 2, none⟩) hb).trans d2
      have hal := hfit.1; have hnl := hfit.2
      clear d0 d1 d2 hfit ho
      obtain ⟨q, hq⟩ : ∃ q, o.name.size / 16 = q := ⟨_, rfl⟩
      have hql : q ≤ o.name.size := by omega
      rw [hq] at Hw
      have j0 : (o.name.size : Int).tdiv 16 = (q : Int) := by rw [← hq]; rw [Int.tdiv_eq_ediv_of_nonneg (by omega)]; omega
      have j1 : IntKind.i64.wrap (q : Int) = (q : Int) := IntWalk.i64_in _ (by omega)
      have j2 : IntKind.i64.wrap ((o.args.length : Int) + (q : Int)) = (o.args.length : Int) + (q : Int) := IntWalk.i64_in _ (by omega)
      have j3 : IntKind.i64.wrap ((n : Int) + ((o.args.length : Int) + (q : Int))) = (n : Int) + ((o.args.length : Int) + (q : Int)) := IntWalk.i64_in _ (by omega)
      have j4 : (k : Int) < (ops.length : Int) := by omega
      have j5 : (0 : Int) ≤ (k : Int) := by omega
      clear hq
      go_wp2
      go_quiet (fail)
      have Hb2 := hide (below_drewN HB.out nq)
      clear j0 j1 j2 j3 j4 j5 e1 e2
      go_wp2
      go_roundw
      case measure => simp [intOf]; omega
      case rel => exact ⟨k + 1, n + (o.args.length + q), by go_num, by go_num, by omega, by omega, hide (by rw [Hw.out, HN.out]), Hb2⟩
    · obtain rfl : k = ops.length := by omega
      have HG : Hid (heavyB ops = decide (500 < n)) := hide (by unfold heavyB; rw [HN.out, List.take_of_length_le (Nat.le_refl _)])
      go_wp2
      go_ret
      exact ⟨ret_bool (by rw [HG.out]; simp; omega), HB.out⟩
end Go.Proofs.Ytafpbdmggnfdnaa

/- alive: a store of six nodes. -/
namespace Go.Proofs.Ytafpbdmggnfdnaa
open Go.RowKit
set_option linter.unusedVariables false

theorem addC_id (n : Nat) : addC n (fun i => i) = fun i => i := by
  funext i; unfold addC; split
  · rename_i h; exact h.symm
  · rfl
/-- A class with a head that is no variable. -/
theorem Stands.con_of {N : List Nd} {c F : Nat → Nat} (hw : Wf N) (hcl : Closed N c) (hF : ∀ i, i < N.length → Form N c (c i) (F (c i))) {i j : Nat} {is : List Nat} {T : Fo} {q : Nd} (hi : i < N.length) (hj : N[j]? = some q) (hij : c j = c i) (hk : q.kind ≠ 1) (h : Stands N c F (i :: is) T) :
    ∃ A T', T = .con q.kind q.name A T' ∧ Stands N c F q.args A ∧ Stands N c F is T' := by
  have Fi := hF i hi
  cases h with
  | @var _ _ T' p hp hkp hr => exact absurd hkp (Fi.head j q p hj hij hk hp)
  | @con _ _ A T' p hp hkp ha hr =>
    obtain ⟨hh, hargs⟩ := hcl (F (c i)) j p q hp hj (Fi.cls.trans hij.symm) hkp hk
    exact ⟨A, T', by rw [hh.1, hh.2.1], ha.congr hh.2.2 hargs, hr⟩

def bInt : ByteArray := ⟨#[105, 110, 116]⟩
def bList : ByteArray := ⟨#[108, 105, 115, 116]⟩
def N6 : List Nd := [varNd, varNd, ⟨2, bInt, []⟩, ⟨4, ByteArray.empty, [0, 0]⟩, ⟨4, ByteArray.empty, [2, 1]⟩, ⟨2, bList, [0]⟩]
theorem forall6 {P : Nat → Prop} (h0 : P 0) (h1 : P 1) (h2 : P 2) (h3 : P 3) (h4 : P 4) (h5 : P 5) (i : Nat) (hi : i < 6) : P i := by
  rcases i with _ | _ | _ | _ | _ | _ | i
  · exact h0
  · exact h1
  · exact h2
  · exact h3
  · exact h4
  · exact h5
  · omega
theorem at6 {i : Nat} {p : Nd} (h : N6[i]? = some p) : i < 6 := by
  have := (List.getElem?_eq_some_iff.1 h).1
  simpa [N6] using this
theorem alive_cycle {err : Int} {c' : Nat → Nat} (h : UniSaid N6 (fun i => i) 0 5 err c') (ha : Acyc N6 c') : err = 130 ∧ c' = fun i => i := by
  rcases h with ⟨h, _⟩ | ⟨_, ⟨_, h⟩ | ⟨_, _, h⟩ | ⟨h1, h2, _⟩⟩
  · exact absurd h (by decide)
  · obtain ⟨g, g1, g2⟩ := ha
    have h1 := g2 5 ⟨2, bList, [0]⟩ rfl 0 (by simp)
    have h2 := g1 0 5 (by decide) (by decide) h.good.ab
    omega
  · refine absurd ?_ (h (fun i => if i = 5 then 0 else i))
    refine ⟨fun i j _ _ e => by have e' : i = j := e; rw [e'], rfl, ?_⟩
    intro i j p q hi hj hij hp hq
    have : i = j := by
      have h1 := at6 hi
      have h2 := at6 hj
      simp only at hij
      by_cases e1 : i = 5 <;> by_cases e2 : j = 5
      · omega
      · rw [if_pos e1, if_neg e2] at hij
        subst hij
        simp [N6] at hj; subst hj; exact absurd rfl hq
      · rw [if_neg e1, if_pos e2] at hij
        subst hij
        simp [N6] at hi; subst hi; exact absurd rfl hp
      · rw [if_neg e1, if_neg e2] at hij; exact hij
    subst this
    rw [hi] at hj; injection hj with hj; subst hj
    exact ⟨⟨rfl, rfl, rfl⟩, fun k a b ha hb => by rw [ha] at hb; injection hb with hb; rw [hb]⟩
  · exact ⟨h1, h2⟩
def e6 (i : Nat) : Nat := if i ≤ 2 then 0 else if i ≤ 4 then 3 else i
theorem good6 : Good N6 (fun i => i) 3 4 e6 := by
  refine ⟨fun i j _ _ e => by have e' : i = j := e; rw [e'], rfl, ?_⟩
  intro i j p q hi hj
  have h1 := at6 hi
  have h2 := at6 hj
  revert hi hj
  refine forall6 (P := fun i => N6[i]? = some p → N6[j]? = some q → e6 i = e6 j → p.kind ≠ 1 → q.kind ≠ 1 → Heads p q ∧ ∀ (k a b : Nat), p.args[k]? = some a → q.args[k]? = some b → e6 a = e6 b) ?_ ?_ ?_ ?_ ?_ ?_ i h1 <;>
  refine forall6 (P := fun j => N6[_]? = some p → N6[j]? = some q → e6 _ = e6 j → p.kind ≠ 1 → q.kind ≠ 1 → Heads p q ∧ ∀ (k a b : Nat), p.args[k]? = some a → q.args[k]? = some b → e6 a = e6 b) ?_ ?_ ?_ ?_ ?_ ?_ j h2 <;>
  · intro hp hq he kp kq
    first
      | exact absurd he (by decide)
      | (simp only [N6, List.getElem?_cons_zero, List.getElem?_cons_succ, Option.some.injEq] at hp hq
         subst hp; subst hq
         first
           | exact absurd rfl kp
           | exact absurd rfl kq
           | (refine ⟨⟨rfl, rfl, rfl⟩, fun k a b ha hb => ?_⟩
              rcases k with _ | _ | k <;> simp at ha hb <;> (try subst ha) <;> (try subst hb) <;> rfl))
theorem acyc6 : Acyc N6 e6 := by
  refine ⟨fun i => if i ≤ 2 then 0 else 1, ?_, fun i p hi => ?_⟩
  · intro i j hi hj
    have h1 : i < 6 := by simpa [N6] using hi
    have h2 : j < 6 := by simpa [N6] using hj
    unfold e6
    intro hij
    show (if i ≤ 2 then 0 else 1) = (if j ≤ 2 then 0 else 1)
    by_cases a : i ≤ 2 <;> by_cases b : j ≤ 2
    · rw [if_pos a, if_pos b]
    · rw [if_pos a, if_neg b] at hij; split at hij <;> omega
    · rw [if_neg a, if_pos b] at hij; split at hij <;> omega
    · rw [if_neg a, if_neg b]
  · have h1 := at6 hi
    revert hi
    refine forall6 (P := fun i => N6[i]? = some p → ∀ a ∈ p.args, (if a ≤ 2 then 0 else 1) < (if i ≤ 2 then 0 else 1)) ?_ ?_ ?_ ?_ ?_ ?_ i h1 <;>
    · intro hp a ha
      simp only [N6, List.getElem?_cons_zero, List.getElem?_cons_succ, Option.some.injEq] at hp
      subst hp
      simp [varNd] at ha
      try (rcases ha with rfl | rfl <;> decide)
      try (subst ha; decide)
theorem alive_ok {err : Int} {c' : Nat → Nat} (h : UniSaid N6 (fun i => i) 3 4 err c') : err = 0 ∧ c' 3 = c' 4 := by
  rcases h with ⟨h, _⟩ | ⟨_, ⟨h0, h⟩ | ⟨_, _, h⟩ | ⟨h1, h2, cl, hl, hn⟩⟩
  · exact absurd h (by decide)
  · exact ⟨h0, h.good.ab⟩
  · exact absurd good6 (h e6)
  · exact absurd (acyc6.of (hl.least e6 good6)) hn
theorem alive_cls {c : Nat → Nat} (hcl : Closed N6 c) (h : c 3 = c 4) : c 0 = c 2 ∧ c 0 = c 1 := by
  obtain ⟨_, h1⟩ := hcl 3 4 _ _ rfl rfl h (by decide) (by decide)
  exact ⟨h1 0 0 2 rfl rfl, h1 1 0 1 rfl rfl⟩
theorem alive_tree {c : Nat → Nat} (hw : Wf N6) (hcl : Closed N6 c) (h : c 3 = c 4) {T : Fo} (hT : TreeOf N6 c [1, 5] T) : T = .con 2 bInt .nil (.con 2 bList (.con 2 bInt .nil .nil) .nil) := by
  obtain ⟨h1, h2⟩ := alive_cls hcl h
  obtain ⟨F, hF, hS⟩ := hT
  obtain ⟨A, T', rfl, ha, hr⟩ := Stands.con_of hw hcl hF (by decide) (j := 2) (q := ⟨2, bInt, []⟩) rfl (h1.symm.trans h2) (by decide) hS
  cases ha
  obtain ⟨B, T'', rfl, hb, hr2⟩ := Stands.con_of hw hcl hF (by decide) (j := 5) (q := ⟨2, bList, [0]⟩) rfl rfl (by decide) hr
  cases hr2
  obtain ⟨C, T3, rfl, hc, hr3⟩ := Stands.con_of hw hcl hF (by decide) (j := 2) (q := ⟨2, bInt, []⟩) rfl h1.symm (by decide) hb
  cases hc; cases hr3
  rfl
theorem alive_small {c : Nat → Nat} (hw : Wf N6) (hcl : Closed N6 c) (h : c 3 = c 4) {x : Nat} (hx : x = 1 ∨ x = 5) {T : Fo} (hT : TreeOf N6 c [x] T) : T.cnt ≤ 300 ∧ (x = 5 → T.cnt = 2) := by
  obtain ⟨h1, h2⟩ := alive_cls hcl h
  obtain ⟨F, hF, hS⟩ := hT
  rcases hx with rfl | rfl
  · obtain ⟨A, T', rfl, ha, hr⟩ := Stands.con_of hw hcl hF (by decide) (j := 2) (q := ⟨2, bInt, []⟩) rfl (h1.symm.trans h2) (by decide) hS
    cases ha; cases hr
    exact ⟨by simp [Fo.cnt], fun e => by cases e⟩
  · obtain ⟨B, T'', rfl, hb, hr2⟩ := Stands.con_of hw hcl hF (by decide) (j := 5) (q := ⟨2, bList, [0]⟩) rfl rfl (by decide) hS
    cases hr2
    obtain ⟨C, T3, rfl, hc, hr3⟩ := Stands.con_of hw hcl hF (by decide) (j := 2) (q := ⟨2, bInt, []⟩) rfl h1.symm (by decide) hb
    cases hc; cases hr3
    exact ⟨by simp [Fo.cnt], fun _ => by simp [Fo.cnt]⟩
theorem alive_yes {c : Nat → Nat} (hcl : Closed N6 c) (h : c 3 = c 4) : AlikeIn N6 c 1 2 := by
  obtain ⟨h1, h2⟩ := alive_cls hcl h
  exact ⟨c, ⟨fun _ _ _ _ e => e, h2.symm.trans h1, hcl⟩, Still.refl _ _⟩
theorem alive_no (c : Nat → Nat) : ¬ AlikeIn N6 c 3 2 := by
  rintro ⟨e, he, _⟩
  have := (he.closed 3 2 _ _ rfl rfl he.ab (by decide) (by decide)).1.1
  exact absurd this (by decide)
end Go.Proofs.Ytafpbdmggnfdnaa

/- alive answers true. -/
namespace Go.Proofs.Ytafpbdmggnfdnaa
open Go.RowKit
set_option linter.unusedVariables false

theorem only_low {M : Nat → Prop} {B : Nat} {w0 w w' : World} (hb : Below B w0 w) (ho : Only M w w') (hB : B ≤ w.heap.size) (hM : ∀ b, M b → B ≤ b) : Below B w0 w' := Only.below_trans hb ho (fun b _ h => hM b h) hB
theorem more_low {M : Nat → Prop} {B : Nat} {w w' : World} (hB : B ≤ w.heap.size) (hM : ∀ b, M b → B ≤ b) : ∀ b, more M w w' b → B ≤ b := by
  rintro b (h | h)
  · exact hM b h
  · omega
/-- A store that is new since w0. -/
structure Own (w0 : World) (g : Nat) (N : List Nd) (c : Nat → Nat) (w : World) : Prop where
  out : ∃ M, Live M g N c w ∧ ∀ b, M b → w0.heap.size ≤ b
  below : Below w0.heap.size w0 w
section
variable {w0 w : World} {g : Nat} {N : List Nd} {c : Nat → Nat}
theorem Own.keep (h : Own w0 g N c w) {w' : World} (hb : Below w.heap.size w w') : Own w0 g N c w' := by
  obtain ⟨⟨M, h1, h2⟩, h3⟩ := h
  exact ⟨⟨M, h1.below hb, h2⟩, h3.trans (hb.mono h3.size)⟩
theorem own_new (w0 w : World) (h : Below w0.heap.size w0 w) : Calls Try.prog 25 #[] w fun e w' => e = .returned (.pointer (some ⟨w.heap.size, 0, none⟩)) ∧ Own w0 w.heap.size [] (fun i => i) w' := by
  refine (live_new w).mono ?_
  rintro e w' ⟨rfl, h1, h2⟩
  exact ⟨rfl, ⟨_, h1, fun b hb => by rw [hb]; exact h.size⟩, h.trans (h2.mono h.size)⟩
theorem own_var (h : Own w0 g N c w) (hm : N.length + 1 ≤ 1000000) : Calls Try.prog 26 #[.pointer (some ⟨g, 0, none⟩)] w fun e w' => e = .returned (.int .i64 (N.length : Int)) ∧ Own w0 g (N ++ [varNd]) (addC N.length c) w' := by
  obtain ⟨⟨M, h1, h2⟩, h3⟩ := h
  refine (live_var h1 hm).mono ?_
  rintro e w' ⟨rfl, k1, k2⟩
  exact ⟨rfl, ⟨_, k1, more_low h3.size h2⟩, only_low h3 k2 h3.size h2⟩
def OwnMade (w0 : World) (g : Nat) (N : List Nd) (c : Nat → Nat) (kind : Int) (name : ByteArray) (xs : List Int) (e : Ending) (w' : World) : Prop :=
  e = .returned (.tuple #[.int .i64 (makeV N kind name xs), .int .i64 (makeErr N.length kind name xs)]) ∧ Own w0 g (makeN N kind name xs) (makeC N c kind name xs) w'
theorem own_con (h : Own w0 g N c w) (name : ByteArray) (A : Option Addr) (cap : Nat) (xs : List Int) (hx : Ints w A xs) (hl : xs.length ≤ 1000000) (hs : name.size ≤ 1000000) (hm : N.length + 1 ≤ 1000000) :
    Calls Try.prog 30 #[.pointer (some ⟨g, 0, none⟩), .string name, .slice A xs.length cap] w (OwnMade w0 g N c 2 name xs) := by
  obtain ⟨⟨M, h1, h2⟩, h3⟩ := h
  refine (live_con h1 name A cap xs hx hl hs hm).mono ?_
  rintro e w' ⟨rfl, k1, k2⟩
  exact ⟨rfl, ⟨_, k1, more_low h3.size h2⟩, only_low h3 k2 h3.size h2⟩
theorem own_pair (h : Own w0 g N c w) (A : Option Addr) (cap : Nat) (xs : List Int) (hx : Ints w A xs) (hl : xs.length ≤ 1000000) (hm : N.length + 1 ≤ 1000000) :
    Calls Try.prog 27 #[.pointer (some ⟨g, 0, none⟩), .slice A xs.length cap] w (OwnMade w0 g N c 3 ByteArray.empty xs) := by
  obtain ⟨⟨M, h1, h2⟩, h3⟩ := h
  refine (live_pair h1 A cap xs hx hl hm).mono ?_
  rintro e w' ⟨rfl, k1, k2⟩
  exact ⟨rfl, ⟨_, k1, more_low h3.size h2⟩, only_low h3 k2 h3.size h2⟩
theorem own_arrow (h : Own w0 g N c w) (a b : Int) (hm : N.length + 1 ≤ 1000000) :
    Calls Try.prog 31 #[.pointer (some ⟨g, 0, none⟩), .int .i64 a, .int .i64 b] w (OwnMade w0 g N c 4 ByteArray.empty [a, b]) := by
  obtain ⟨⟨M, h1, h2⟩, h3⟩ := h
  refine (live_arrow h1 a b hm).mono ?_
  rintro e w' ⟨rfl, k1, k2⟩
  exact ⟨rfl, ⟨_, k1, more_low h3.size h2⟩, only_low h3 k2 h3.size h2⟩
theorem own_len_ (h : Own w0 g N c w) : Calls Try.prog 32 #[.pointer (some ⟨g, 0, none⟩)] w fun e w' => e = .returned (.int .i64 (N.length : Int)) ∧ w = w' := by
  obtain ⟨⟨M, h1, h2⟩, h3⟩ := h
  exact live_len h1
theorem own_unify (h : Own w0 g N c w) (a b : Int) : Calls Try.prog 23 #[.pointer (some ⟨g, 0, none⟩), .int .i64 a, .int .i64 b] w fun e w' => ∃ err c', e = .returned (.int .i64 err) ∧ UniSaid N c a b err c' ∧ Own w0 g N c' w' := by
  obtain ⟨⟨M, h1, h2⟩, h3⟩ := h
  refine (live_unify h1 a b).mono ?_
  rintro e w' ⟨err, c', rfl, k0, k1, k2⟩
  exact ⟨err, c', rfl, k0, ⟨M, k1, h2⟩, only_low h3 k2 h3.size h2⟩
theorem own_alike (h : Own w0 g N c w) (a b : Nat) (ha : a < N.length) (hb : b < N.length) : Calls Try.prog 19 #[.pointer (some ⟨g, 0, none⟩), .int .i64 (a : Int), .int .i64 (b : Int)] w fun e w' => (∃ r : Bool, e = .returned (.bool r) ∧ (r = true ↔ AlikeIn N c a b)) ∧ Own w0 g N c w' := by
  obtain ⟨⟨M, h1, h2⟩, h3⟩ := h
  refine (live_alike h1 a b ha hb).mono ?_
  rintro e w' ⟨k0, k1, k2⟩
  exact ⟨k0, ⟨M, k1, h2⟩, only_low h3 k2 h3.size h2⟩
theorem own_size (h : Own w0 g N c w) (i : Nat) (hi : i < N.length) (T : Fo) (hT : TreeOf N c [i] T) : Calls Try.prog 13 #[.pointer (some ⟨g, 0, none⟩), .int .i64 (i : Int)] w fun e w' => e = .returned (.int .i64 (capped T.cnt : Int)) ∧ Own w0 g N c w' := by
  have h' := h
  obtain ⟨⟨M, h1, h2⟩, h3⟩ := h
  refine (live_size h1 (i : Int) (capped T.cnt : Int) (.inr ⟨by simp [allIn]; omega, T, by simpa using hT, rfl⟩)).mono ?_
  rintro e w' ⟨rfl, hb⟩
  exact ⟨rfl, h'.keep hb⟩
end

theorem OwnMade.yes {w0 w : World} {g : Nat} {N : List Nd} {kind : Int} {name : ByteArray} {xs : List Int} {e : Ending} (h : OwnMade w0 g N (fun i => i) kind name xs e w) (he : makeErr N.length kind name xs = 0) : e = .returned (.tuple #[.int .i64 (N.length : Int), .int .i64 0]) ∧ Own w0 g (N ++ [⟨kind, name, xs.map Int.toNat⟩]) (fun i => i) w := by
  unfold OwnMade makeV makeN makeC at h
  rw [he, if_pos rfl, if_pos rfl, if_pos rfl, addC_id] at h
  exact h
theorem name_ok : kindL bInt.toList = 1 ∧ kindL bList.toList = 1 := by constructor <;> kernel_rfl
set_option maxRecDepth 100000 in
set_option maxHeartbeats 4000000 in
theorem alive_any (w : World) : Calls Try.prog 9 #[] w fun e w' => e = .returned (.bool true) ∧ Below w.heap.size w w' := by
  go_enter Try.func9, Try.ntmps9
  go_wp2_with fail
  refine (own_new w w (Below.refl _ _)).mono ?_
  rintro e w1 ⟨rfl, h1⟩
  have H1 := hide h1; clear h1
  go_wp2_with fail
  refine (own_var H1.out (by decide)).mono ?_
  rintro e w2 ⟨rfl, h2⟩
  rw [show ([] : List Nd).length = 0 from rfl, addC_id] at h2
  have H2 := hide h2; clear h2
  go_wp2_with fail
  refine (own_var H2.out (by decide)).mono ?_
  rintro e w3 ⟨rfl, h3⟩
  rw [addC_id] at h3
  have H3 := hide h3; clear h3
  go_wp2_with fail
  refine (own_con H3.out bInt none 0 [] (fun h => absurd rfl h) (by decide) (by decide) (by decide)).mono ?_
  intro e w4 hp4
  obtain ⟨rfl, h4⟩ := hp4.yes (by unfold makeErr; rw [if_neg (by simp [allIn]), if_neg (by simp [name_ok.1])])
  have H4 := hide h4; clear h4 hp4
  go_wp2_with fail
  refine (own_arrow H4.out 0 0 (by decide)).mono ?_
  intro e w5 hp5
  obtain ⟨rfl, h5⟩ := hp5.yes (by decide)
  have H5 := hide h5; clear h5 hp5
  go_wp2_with fail
  refine (own_arrow H5.out 2 1 (by decide)).mono ?_
  intro e w6 hp6
  obtain ⟨rfl, h6⟩ := hp6.yes (by decide)
  have H6 := hide h6; clear h6 hp6
  go_wp2_with fail
  refine (own_con (H6.out.keep ((Below.refl _ _).alloc (Nat.le_refl _) _)) bList (some ⟨w6.heap.size, 0, none⟩) 1 [0] (ints_one w6 0 _) (by decide) (by decide) (by decide)).mono ?_
  intro e w7 hp7
  obtain ⟨rfl, h7⟩ := hp7.yes (by unfold makeErr; rw [if_neg (by decide), if_neg (by simp [name_ok.2])])
  have H7 : Hid (Own w w.heap.size N6 (fun i => i) w7) := hide h7
  clear h7 hp7
  go_wp2_with fail
  refine (own_unify H7.out 0 5).mono ?_
  rintro e w8 ⟨err, c8, rfl, hs8, h8⟩
  obtain ⟨rfl, rfl⟩ := alive_cycle hs8 (by obtain ⟨⟨M, k, _⟩, _⟩ := h8; exact k.acyc)
  have H8 := hide h8; clear h8 hs8
  go_wp2_with fail
  refine (own_unify H8.out 3 4).mono ?_
  rintro e w9 ⟨err, c9, rfl, hs9, h9⟩
  obtain ⟨rfl, h34⟩ := alive_ok hs9
  have H9 := hide h9; have H34 := hide h34; clear h9 hs9 h34
  have Hw9 : Hid (Wf N6 ∧ Closed N6 c9) := hide (by obtain ⟨⟨M, k, _⟩, _⟩ := H9.out; exact ⟨k.wf, k.closed⟩)
  go_wp2_with fail
  have hb9 : Below w9.heap.size w9 (w9.alloc (Obj.cells #[.int .i64 1, .int .i64 5] 3)) := (Below.refl _ _).alloc (Nat.le_refl _) _
  obtain ⟨⟨M, kL, kM⟩, kB⟩ := H9.out.keep hb9
  obtain ⟨T, hT⟩ := kL.tree [1, 5] (by decide)
  have hTe := alive_tree Hw9.out.1 Hw9.out.2 H34.out hT
  have htypes := live_types kL (some ⟨w9.heap.size, 0, none⟩) 2 [1, 5] (ints_two w9 1 5 _) (by decide) (by decide) T hT (fun x hx B hB => (alive_small Hw9.out.1 Hw9.out.2 H34.out (by simpa using hx) hB).1)
  have hren : ren T = .con 2 bInt .nil (.con 2 bList (.con 2 bInt .nil .nil) .nil) := by rw [hTe]; rfl
  rw [hren] at htypes
  have HB := hide (H9.out.keep hb9)
  clear kL kM kB hT hTe hren hb9
  refine htypes.mono ?_
  rintro e w10 ⟨A, cp, rfl, hat, hb10⟩
  have H10 := hide (HB.out.keep hb10)
  obtain ⟨b, off, rfl, hn1, hn2⟩ : ∃ b off, A = some ⟨b, off, none⟩ ∧ w10.cell? ⟨b, off + 2, none⟩ = some (.string bInt) ∧ w10.cell? ⟨b, off + 6, none⟩ = some (.string bList) := by
    rcases hat with h | ⟨b, off, cs, e1, -, hc, hcell⟩
    · cases h
    · obtain ⟨A1, c1, r1, rfl, -, A2, c2, r2, rfl, -, -⟩ := hc
      exact ⟨b, off, e1, hcell 2 _ rfl, hcell 6 _ rfl⟩
  clear hat hb10 htypes
  have q1 : bInt.toList = [105, 110, 116] := by kernel_rfl
  have q2 : bList.toList = [108, 105, 115, 116] := by kernel_rfl
  go_wp2_with fail
  refine (own_alike H10.out 1 2 (by decide) (by decide)).mono ?_
  rintro e w11 ⟨⟨r, rfl, hr⟩, h11⟩
  obtain rfl : r = true := hr.2 (alive_yes Hw9.out.2 H34.out)
  have H11 := hide h11; clear h11 hr
  go_wp2_with fail
  refine (own_alike H11.out 3 2 (by decide) (by decide)).mono ?_
  rintro e w12 ⟨⟨r, rfl, hr⟩, h12⟩
  obtain rfl : r = false := by
    cases r with
    | false => rfl
    | true => exact absurd (hr.1 rfl) (alive_no c9)
  have H12 := hide h12; clear h12 hr
  go_wp2_with fail
  obtain ⟨T5, hT5⟩ : ∃ T5, TreeOf N6 c9 [5] T5 := by
    obtain ⟨⟨M, k, _⟩, _⟩ := H12.out
    exact k.tree [5] (by decide)
  have hc5 := (alive_small Hw9.out.1 Hw9.out.2 H34.out (.inr rfl) hT5).2 rfl
  refine (own_size H12.out 5 (by decide) T5 hT5).mono ?_
  rw [hc5]
  rintro e w13 ⟨rfl, h13⟩
  have H13 := hide h13; clear h13
  have q3 : (capped 2 : Int) = 2 := rfl
  go_wp2_with fail
  refine (own_len_ H13.out).mono ?_
  rintro e w14 ⟨rfl, rfl⟩
  have q4 : (N6.length : Int) = 6 := rfl
  go_wp2
  go_ret
  exact ⟨rfl, H13.out.below⟩
end Go.Proofs.Ytafpbdmggnfdnaa

/- The walk of the law UnifyChain. -/
namespace Go.Proofs.Ytafpbdmggnfdnaa
open Go.RowKit
set_option linter.unusedVariables false

theorem alike_of {N : List Nd} {c : Nat → Nat} {a b : Nat} (hcl : Closed N c) (h : c a = c b) : AlikeIn N c a b := ⟨c, ⟨fun _ _ _ _ e => e, h, hcl⟩, Still.refl _ _⟩
theorem Two.closed {K : Nat → Prop} {w0 w : World} {g : Nat} {N N' : List Nd} {c c' : Nat → Nat} {v : Value} (h : Two K w0 g N c v N' c' w) : Closed N c := by
  obtain ⟨⟨M, M', h1, h2, h3, h4⟩, h5, h6⟩ := h
  exact h1.closed
/-- What Unify makes alike is alike, and what was stays so. -/
theorem uni_ok {N : List Nd} {c c' : Nat → Nat} {a b : Nat} {err : Int} (h : UniSaid N c (a : Int) (b : Int) err c') (ha : a < N.length) (hb : b < N.length) : Resp N.length c c' ∧ (err = 0 → c' a = c' b) := by
  rcases h with ⟨_, h1, rfl⟩ | ⟨_, ⟨_, hl⟩ | ⟨h1, rfl, _⟩ | ⟨h1, rfl, _⟩⟩
  · exact ⟨fun _ _ _ _ e => e, fun e => by omega⟩
  · have := hl.good.ab
    simp only [Int.toNat_natCast] at this
    exact ⟨hl.good.resp, fun _ => this⟩
  · exact ⟨fun _ _ _ _ e => e, fun e => by omega⟩
  · exact ⟨fun _ _ _ _ e => e, fun e => by omega⟩
theorem two_alike_yes {K : Nat → Prop} {w0 w : World} {g : Nat} {N N' : List Nd} {c c' : Nat → Nat} {v : Value} (h : Two K w0 g N c v N' c' w) (a b : Nat) (ha : a < N.length) (hb : b < N.length) (he : c a = c b) : Calls Try.prog 19 #[.pointer (some ⟨g, 0, none⟩), .int .i64 (a : Int), .int .i64 (b : Int)] w fun e w' => e = .returned (.bool true) ∧ Two K w0 g N c v N' c' w' ∧ Keeps K w w' := by
  refine (two_alike h a b ha hb).mono ?_
  rintro e w' ⟨⟨r, rfl, hr⟩, h1, h2⟩
  have : r = true := hr.2 (alike_of h.closed he)
  subst this
  exact ⟨rfl, h1, h2⟩
/-- Two stores, and three numbers in memory that is neither's. -/
def TwoAt (K : Nat → Prop) (w0 : World) (g : Nat) (N : List Nd) (c : Nat → Nat) (v : Value) (c' : Nat → Nat) (bB oB i j k x y z : Nat) (w : World) : Prop :=
  Two K w0 g N c v N c' w ∧ w.cell? ⟨bB, oB + i, none⟩ = some (.int .i64 (x : Int)) ∧ w.cell? ⟨bB, oB + j, none⟩ = some (.int .i64 (y : Int)) ∧ w.cell? ⟨bB, oB + k, none⟩ = some (.int .i64 (z : Int))
theorem TwoAt.alike {K : Nat → Prop} {w0 w : World} {g : Nat} {N : List Nd} {c c' : Nat → Nat} {v : Value} {bB oB i j k x y z : Nat} (h : TwoAt K w0 g N c v c' bB oB i j k x y z w) (hK : K bB) (a b : Nat) (ha : a < N.length) (hb : b < N.length) (he : c a = c b) : Calls Try.prog 19 #[.pointer (some ⟨g, 0, none⟩), .int .i64 (a : Int), .int .i64 (b : Int)] w fun e w' => e = .returned (.bool true) ∧ TwoAt K w0 g N c v c' bB oB i j k x y z w' := by
  obtain ⟨h0, h1, h2, h3⟩ := h
  refine (two_alike_yes h0 a b ha hb he).mono ?_
  rintro e w' ⟨rfl, k0, k1⟩
  have e1 := k1.2 bB hK
  exact ⟨rfl, k0, (World.cell?_of_block (a := ⟨bB, oB + i, none⟩) e1).trans h1, (World.cell?_of_block (a := ⟨bB, oB + j, none⟩) e1).trans h2, (World.cell?_of_block (a := ⟨bB, oB + k, none⟩) e1).trans h3⟩
set_option maxRecDepth 100000 in
set_option maxHeartbeats 4000000 in
theorem unifyChain_walk (A : Option Addr) (cap : Nat) (ops0 : List OpV) (a b c : Int) (w : World) (hA : OpsAt w A ops0) (hl : OpsLen ops0) (hcap : ops0.length ≤ cap) :
    Calls Try.prog 7 #[.slice A ops0.length cap, .int .i64 a, .int .i64 b, .int .i64 c] w fun e w' => e = .returned (.bool true) ∧ Below w.heap.size w w' := by
  obtain ⟨ops, hops⟩ : ∃ ops, ops0.take 60 = ops := ⟨_, rfl⟩
  have h60 : ops.length ≤ 60 := by rw [← hops, List.length_take]; omega
  have hA' : OpsAt w A ops := by rw [← hops]; exact hA.take 60
  have hl' : OpsLen ops := by
    rw [← hops]
    exact ⟨by rw [List.length_take]; have := hl.1; omega, fun o ho => hl.2 o (List.mem_of_mem_take ho)⟩
  have HC := hide (fun W (hW : Below w.heap.size w W) => cut_any W A cap ops0 (hA.below hW) hl hcap)
  rw [hops] at HC
  have HG := hide (fun W (hW : Below w.heap.size w W) => heavy_any W A cap ops (hA'.below hW) hl' h60)
  have HA := hide hA'; have Hl := hide hl'
  clear hops hA hl hA' hl'
  go_enter Try.func7, Try.ntmps7
  go_wp2_with fail
  refine (alive_any _).mono ?_
  rintro e w1 ⟨rfl, hb1⟩
  have Hb1 := hide hb1
  clear hb1
  go_wp2_with fail
  refine (HC.out w1 Hb1.out).mono ?_
  rintro e w2 ⟨rfl, rfl⟩
  go_wp2_with fail
  refine (HG.out w1 Hb1.out).mono ?_
  rintro e w2 ⟨rfl, hb2⟩
  have Hb2 := hide (Hb1.out.trans (hb2.mono Hb1.out.size))
  clear hb2
  cases hh : heavyB ops
  · have Hfit : Hid (OpsFit ops) := hide (weight_fit h60 (by unfold heavyB at hh; simpa using hh))
    clear hh
    go_wp2_with fail
    refine (runs_any w2 A cap ops (HA.out.below Hb2.out) Hfit.out).mono ?_
    rintro e w3 ⟨g, v, B, mcap, N, made, d, d', rfl, hr, hr', hT, hM⟩
    obtain ⟨Av, vcap, hv⟩ := hT.facts.2.2.2.2
    subst hv
    have Hr := hide hr; have HT := hide hT; have HM := hide hM
    have hml : made.length ≤ 60 := by have := hr.facts.2.2.2; simp at this; omega
    clear hr hr' hT hM
    by_cases hin : (0 ≤ a ∧ a < (made.length : Int)) ∧ (0 ≤ b ∧ b < (made.length : Int)) ∧ (0 ≤ c ∧ c < (made.length : Int))
    · obtain ⟨⟨ha0, ha1⟩, ⟨hb0, hb1⟩, ⟨hc0, hc1⟩⟩ := hin
      obtain ⟨a, rfl⟩ : ∃ n : Nat, a = n := ⟨a.toNat, by omega⟩
      obtain ⟨b, rfl⟩ : ∃ n : Nat, b = n := ⟨b.toNat, by omega⟩
      obtain ⟨c, rfl⟩ : ∃ n : Nat, c = n := ⟨c.toNat, by omega⟩
      have ka : a < made.length := by omega
      have kb : b < made.length := by omega
      have kc : c < made.length := by omega
      obtain ⟨bB, oB, hB, hBl, c0⟩ := HM.out.at_ a (by simpa [cast] using ka)
      obtain ⟨bB', oB', e', -, c1⟩ := HM.out.at_ b (by simpa [cast] using kb)
      obtain ⟨rfl, rfl⟩ : bB = bB' ∧ oB = oB' := by rw [hB] at e'; injection e' with e'; injection e' with e1 e2; exact ⟨e1, e2⟩
      obtain ⟨bB', oB', e2', -, c2⟩ := HM.out.at_ c (by simpa [cast] using kc)
      obtain ⟨rfl, rfl⟩ : bB = bB' ∧ oB = oB' := by rw [hB] at e2'; injection e2' with e'; injection e' with e1 e2; exact ⟨e1, e2⟩
      simp only [cast, List.getElem_map] at c0 c1 c2
      obtain ⟨x, hx⟩ : ∃ x, made[a] = x := ⟨_, rfl⟩
      obtain ⟨y, hy⟩ : ∃ x, made[b] = x := ⟨_, rfl⟩
      obtain ⟨z, hz⟩ : ∃ x, made[c] = x := ⟨_, rfl⟩
      have hxn : x < N.length := Hr.out.facts.1 x (by rw [← hx]; exact List.getElem_mem _)
      have hyn : y < N.length := Hr.out.facts.1 y (by rw [← hy]; exact List.getElem_mem _)
      have hzn : z < N.length := Hr.out.facts.1 z (by rw [← hz]; exact List.getElem_mem _)
      rw [hx] at c0; rw [hy] at c1; rw [hz] at c2
      have HKB : Hid (∃ x, B = some x ∧ x.block = bB) := hide ⟨_, hB, rfl⟩
      have hb4 : Below w3.heap.size w3 (w3.alloc (.cells #[.slice Av N.length vcap] 29)) := (Below.refl _ _).alloc (Nat.le_refl _) _
      have p0 := (hb4.cell (p := ⟨bB, oB + a, none⟩) hBl).trans c0
      have p1 := (hb4.cell (p := ⟨bB, oB + b, none⟩) hBl).trans c1
      have p2 := (hb4.cell (p := ⟨bB, oB + c, none⟩) hBl).trans c2
      have HT4 := hide (HT.out.later hb4)
      subst hB
      clear hx hy hz e' e2' c0 c1 c2 hb4 hcap
      go_upto_region 11 with fail
      obtain ⟨w4, hw4⟩ : ∃ w4, w3.alloc (.cells #[.slice Av N.length vcap] 29) = w4 := ⟨_, rfl⟩
      rw [hw4] at p0 p1 p2 HT4
      simp only [hw4]
      clear hw4
      have HU := hide (fun n => two_unify (HT4.out.drewN n) (x : Int) (y : Int))
      have HU1 := hide (two_unify HT4.out (x : Int) (y : Int))
      go_region_held3 (fun w' => w'.cell? ⟨bB, oB + a, none⟩ = some (.int .i64 (x : Int)) ∧ w'.cell? ⟨bB, oB + b, none⟩ = some (.int .i64 (y : Int)) ∧ w'.cell? ⟨bB, oB + c, none⟩ = some (.int .i64 (z : Int))) (go_keep)
        (first | (go_at_call 23; first | refine HU1.out.mono ?_ | refine (HU.out 1).mono ?_; rintro e w5 ⟨ev, d1, rfl, hu5, hT5, hk5⟩; have r0 := (World.cell?_of_block (a := ⟨bB, oB + a, none⟩) (hk5.2 bB HKB.out)).trans p0; have r1 := (World.cell?_of_block (a := ⟨bB, oB + b, none⟩) (hk5.2 bB HKB.out)).trans p1; have r2 := (World.cell?_of_block (a := ⟨bB, oB + c, none⟩) (hk5.2 bB HKB.out)).trans p2))
      rename_i hHeld
      clear hHeld p0 p1 p2 hk5 HU HU1
      have hbe5 := Hb2.out.trans (hT5.below.mono Hb2.out.size)
      have Hbe5 := hide hbe5; have HT5 := hide hT5; have Hu5 := hide hu5
      clear hbe5 hT5 hu5
      by_cases hev : ev = 0
      · subst hev
        have Hxy : Hid (d1 x = d1 y) := hide ((uni_ok Hu5.out hxn hyn).2 rfl)
        go_upto_region 13 with fail
        have HU := hide (two_unify (HT5.out.drewN 1) (y : Int) (z : Int))
        go_region_held3 (fun w' => w'.cell? ⟨bB, oB + a, none⟩ = some (.int .i64 (x : Int)) ∧ w'.cell? ⟨bB, oB + b, none⟩ = some (.int .i64 (y : Int)) ∧ w'.cell? ⟨bB, oB + c, none⟩ = some (.int .i64 (z : Int))) (go_keep)
          (first | (go_at_call 23; refine HU.out.mono ?_; rintro e w6 ⟨ev, d2, rfl, hu6, hT6, hk6⟩; have s0 := (World.cell?_of_block (a := ⟨bB, oB + a, none⟩) (hk6.2 bB HKB.out)).trans r0; have s1 := (World.cell?_of_block (a := ⟨bB, oB + b, none⟩) (hk6.2 bB HKB.out)).trans r1; have s2 := (World.cell?_of_block (a := ⟨bB, oB + c, none⟩) (hk6.2 bB HKB.out)).trans r2))
        rename_i hHeld
        clear hHeld r0 r1 r2 hk6 HU
        have Hbe6 := hide (Hb2.out.trans (hT6.below.mono Hb2.out.size)); have HT6 := hide hT6; have Hu6 := hide hu6
        have Hxy2 : Hid (d2 x = d2 y) := hide ((uni_ok hu6 hyn hzn).1 x y hxn hyn Hxy.out)
        have Hyz : Hid (ev = 0 → d2 y = d2 z) := hide (uni_ok hu6 hyn hzn).2
        clear hT6 hu6
        have HTK6 : Hid (TwoAt (fun b => ∃ x, some (⟨bB, oB, none⟩ : Addr) = some x ∧ x.block = b) w2 g N d2 (.slice Av N.length vcap) d' bB oB a b c x y z (w6.drewN 1)) := hide ⟨HT6.out.drewN 1, s0, s1, s2⟩
        have HAl := hide (fun W (p q : Nat) (h : TwoAt (fun b => ∃ x, some (⟨bB, oB, none⟩ : Addr) = some x ∧ x.block = b) w2 g N d2 (.slice Av N.length vcap) d' bB oB a b c x y z W) (he : d2 p = d2 q) (hp : p < N.length) (hq : q < N.length) => h.alike HKB.out p q hp hq he)
        go_upto_region 14 with fail
        go_region_held3 (fun w' => w'.cell? ⟨bB, oB + a, none⟩ = some (.int .i64 (x : Int)) ∧ w'.cell? ⟨bB, oB + b, none⟩ = some (.int .i64 (y : Int)) ∧ w'.cell? ⟨bB, oB + c, none⟩ = some (.int .i64 (z : Int))) (go_keep)
          (first | (go_at_call 19; refine (HAl.out _ _ _ (by first | exact HTK.out | exact HTK6.out) (by first | exact Hxy2.out | exact Hxy2.out.symm) (by first | exact hxn | exact hyn) (by first | exact hxn | exact hyn)).mono ?_; rintro e w7 ⟨rfl, hTK⟩; obtain ⟨q0, q1, q2⟩ := hTK.2; have HTK := hide hTK; clear hTK))
        have HT8 := hide HTK.out.1
        obtain ⟨t0, t1, t2⟩ := HTK.out.2
        rename_i hHeld
        clear hHeld s0 s1 s2
        have Hbe8 := hide (Hb2.out.trans (HT8.out.below.mono Hb2.out.size))
        by_cases hev : ev = 0
        · subst hev
          have Hxz : Hid (d2 x = d2 z) := hide (Hxy2.out.trans (Hyz.out rfl))
          go_upto_region 16 with fail
          go_region_held3 (fun w' => w'.cell? ⟨bB, oB + a, none⟩ = some (.int .i64 (x : Int)) ∧ w'.cell? ⟨bB, oB + b, none⟩ = some (.int .i64 (y : Int)) ∧ w'.cell? ⟨bB, oB + c, none⟩ = some (.int .i64 (z : Int))) (go_keep)
            (first | (go_at_call 19; refine (two_alike_yes (HT8.out.drewN 1) x z hxn hzn Hxz.out).mono ?_; rintro e w9 ⟨rfl, hT9, hk9⟩; have m0 := (World.cell?_of_block (a := ⟨bB, oB + a, none⟩) (hk9.2 bB HKB.out)).trans t0; have m1 := (World.cell?_of_block (a := ⟨bB, oB + b, none⟩) (hk9.2 bB HKB.out)).trans t1; have m2 := (World.cell?_of_block (a := ⟨bB, oB + c, none⟩) (hk9.2 bB HKB.out)).trans t2; have HT9 := hide hT9; clear hT9 hk9))
          have Hbe9 := hide (Hb2.out.trans (HT9.out.below.mono Hb2.out.size))
          go_wp2
          go_ret
          exact ⟨rfl, Hbe9.out⟩
        · have k1 : (ev != 0) = true := by simpa using hev
          clear hev
          go_upto_region 16 with fail
          go_quiet (fail)
          go_wp2
          go_ret
          exact ⟨rfl, below_drewN Hbe8.out _⟩
      · have k1 : (ev != 0) = true := by simpa using hev
        clear hev
        go_wp2
        go_ret
        exact ⟨rfl, Hbe5.out⟩
    · have Hbe : Hid (Below w.heap.size w w3) := hide (Hb2.out.trans (HT.out.below.mono Hb2.out.size))
      rcases (show a < 0 ∨ (0 ≤ a ∧ b < 0) ∨ (0 ≤ a ∧ 0 ≤ b ∧ c < 0) ∨ (0 ≤ a ∧ 0 ≤ b ∧ 0 ≤ c ∧ (made.length : Int) ≤ a) ∨ (0 ≤ a ∧ 0 ≤ b ∧ 0 ≤ c ∧ a < (made.length : Int) ∧ (made.length : Int) ≤ b) ∨ (0 ≤ a ∧ 0 ≤ b ∧ 0 ≤ c ∧ a < (made.length : Int) ∧ b < (made.length : Int) ∧ (made.length : Int) ≤ c) by omega) with h1 | ⟨h1, h2⟩ | ⟨h1, h2, h3⟩ | ⟨h1, h2, h3, h4⟩ | ⟨h1, h2, h3, h4, h5⟩ | ⟨h1, h2, h3, h4, h5, h6⟩
      all_goals
        clear hin
        go_wp2
        go_ret
        exact ⟨rfl, Hbe.out.alloc (by have := Hbe.out.size; omega) _⟩
  · go_wp2
    go_ret
    exact ⟨rfl, Hb2.out⟩
end Go.Proofs.Ytafpbdmggnfdnaa

/- SameType, SameTypes: of the same types. -/
namespace Go.Proofs.Ytafpbdmggnfdnaa
open Go.RowKit
set_option linter.unusedVariables false

def Fo.nth : Fo → Nat → Fo
  | .nil, _ => .nil
  | .var n _, 0 => .var n .nil
  | .var _ r, i + 1 => r.nth i
  | .con k m a _, 0 => .con k m a .nil
  | .con _ _ _ r, i + 1 => r.nth i
theorem Fo.nth_cnt (F : Fo) : ∀ i, (F.nth i).cnt ≤ F.cnt := by
  induction F with
  | nil => intro i; simp [Fo.nth]
  | var n r ih =>
    intro i
    cases i with
    | zero => simp [Fo.nth, Fo.cnt]
    | succ i => have := ih i; simp only [Fo.nth, Fo.cnt]; omega
  | con k m a r _ ih =>
    intro i
    cases i with
    | zero => simp [Fo.nth, Fo.cnt]
    | succ i => have := ih i; simp only [Fo.nth, Fo.cnt]; omega
/-- The four cells of a type. -/
def tyCells (kd nu : Int) (s : ByteArray) (A : Option Addr) (n c : Nat) : List Value := [.int .i64 kd, .int .i64 nu, .string s, .slice A n c]
theorem FoCells.nth {w : World} {P : Nat → Prop} (F : Fo) : ∀ {cs : List Value}, FoCells w P F cs → ∀ i, i < F.len → ∃ kd nu s A n c, cs[i * 4]? = some (.int .i64 kd) ∧ cs[i * 4 + 1]? = some (.int .i64 nu) ∧ cs[i * 4 + 2]? = some (.string s) ∧ cs[i * 4 + 3]? = some (.slice A n c) ∧ FoCells w P (F.nth i) (tyCells kd nu s A n c) := by
  induction F with
  | nil => intro cs _ i hi; simp [Fo.len] at hi
  | var n r ih =>
    rintro cs ⟨A, c, rest, rfl, h⟩ i hi
    cases i with
    | zero => exact ⟨1, n, _, A, 0, c, rfl, rfl, rfl, rfl, A, c, [], rfl, rfl⟩
    | succ i =>
      obtain ⟨kd, nu, s, A', n', c', h0, h1, h2, h3, h4⟩ := ih h i (by simp [Fo.len] at hi; omega)
      refine ⟨kd, nu, s, A', n', c', ?_, ?_, ?_, ?_, h4⟩
      · rw [show (i + 1) * 4 = i * 4 + 4 by omega]; simpa using h0
      · rw [show (i + 1) * 4 + 1 = i * 4 + 1 + 4 by omega]; simpa using h1
      · rw [show (i + 1) * 4 + 2 = i * 4 + 2 + 4 by omega]; simpa using h2
      · rw [show (i + 1) * 4 + 3 = i * 4 + 3 + 4 by omega]; simpa using h3
  | con k m a r _ ih =>
    rintro cs ⟨A, c, rest, rfl, ha, h⟩ i hi
    cases i with
    | zero => exact ⟨k, 0, m, A, a.len, c, rfl, rfl, rfl, rfl, A, c, [], rfl, ha, rfl⟩
    | succ i =>
      obtain ⟨kd, nu, s, A', n', c', h0, h1, h2, h3, h4⟩ := ih h i (by simp [Fo.len] at hi; omega)
      refine ⟨kd, nu, s, A', n', c', ?_, ?_, ?_, ?_, h4⟩
      · rw [show (i + 1) * 4 = i * 4 + 4 by omega]; simpa using h0
      · rw [show (i + 1) * 4 + 1 = i * 4 + 1 + 4 by omega]; simpa using h1
      · rw [show (i + 1) * 4 + 2 = i * 4 + 2 + 4 by omega]; simpa using h2
      · rw [show (i + 1) * 4 + 3 = i * 4 + 3 + 4 by omega]; simpa using h3
/-- An element of a slice of types. -/
theorem FoAt.nth {w : World} {P : Nat → Prop} {A : Option Addr} {F : Fo} (h : FoAt w P A F) (i : Nat) (hi : i < F.len) : ∃ b off kd nu s B n c, A = some ⟨b, off, none⟩ ∧ P b ∧ w.cell? ⟨b, off + i * 4, none⟩ = some (.int .i64 kd) ∧ w.cell? ⟨b, off + i * 4 + 1, none⟩ = some (.int .i64 nu) ∧ w.cell? ⟨b, off + i * 4 + 2, none⟩ = some (.string s) ∧ w.cell? ⟨b, off + i * 4 + 3, none⟩ = some (.slice B n c) ∧ FoCells w P (F.nth i) (tyCells kd nu s B n c) := by
  rcases h with rfl | ⟨b, off, cs, e, hb, hc, hcell⟩
  · simp [Fo.len] at hi
  · obtain ⟨kd, nu, s, B, n, c, h0, h1, h2, h3, h4⟩ := FoCells.nth F hc i hi
    exact ⟨b, off, kd, nu, s, B, n, c, e, hb, hcell _ _ h0, hcell _ _ h1, hcell _ _ h2, hcell _ _ h3, h4⟩
/-- One type: what its cells are. -/
theorem FoCells.parts {w : World} {P : Nat → Prop} {F : Fo} {kd nu : Int} {s : ByteArray} {A : Option Addr} {n c : Nat} (h : FoCells w P F (tyCells kd nu s A n c)) :
    (∃ m : Nat, F = .var m .nil ∧ kd = 1 ∧ nu = m ∧ s = ByteArray.empty ∧ n = 0) ∨ (∃ a, F = .con kd s a .nil ∧ nu = 0 ∧ n = a.len ∧ FoAt w P A a) := by
  cases F with
  | nil => simp [FoCells, tyCells] at h
  | var m r =>
    obtain ⟨A', c', rest, e, hr⟩ := h
    simp only [tyCells, List.cons.injEq, Value.int.injEq, Value.string.injEq, Value.slice.injEq, true_and] at e
    obtain ⟨rfl, rfl, rfl, ⟨rfl, rfl, rfl⟩, rfl⟩ := e
    refine .inl ⟨m, ?_, rfl, rfl, rfl, rfl⟩
    cases r with
    | nil => rfl
    | var _ _ => obtain ⟨_, _, _, e, _⟩ := hr; simp at e
    | con _ _ _ _ => obtain ⟨_, _, _, e, _⟩ := hr; simp at e
  | con k m a r =>
    obtain ⟨A', c', rest, e, ha, hr⟩ := h
    simp only [tyCells, List.cons.injEq, Value.int.injEq, Value.string.injEq, Value.slice.injEq, true_and] at e
    obtain ⟨rfl, rfl, rfl, ⟨rfl, rfl, rfl⟩, rfl⟩ := e
    refine .inr ⟨a, ?_, rfl, rfl, ha⟩
    cases r with
    | nil => rfl
    | var _ _ => obtain ⟨_, _, _, e, _⟩ := hr; simp at e
    | con _ _ _ _ => obtain ⟨_, _, _, e, _⟩ := hr; simp at e
theorem box_four (w : World) (u0 u1 u2 u3 v0 v1 v2 v3 : Value) (t : TypeId) : ((w.alloc (.cells #[u0, u1, u2, u3] t)).alloc (.cells #[v0, v1, v2, v3] t)).heap[w.heap.size]? = some (.cells #[u0, u1, u2, u3] t (0, 0)) ∧ ((w.alloc (.cells #[u0, u1, u2, u3] t)).alloc (.cells #[v0, v1, v2, v3] t)).heap[w.heap.size + 1]? = some (.cells #[v0, v1, v2, v3] t (0, 0)) ∧ Below w.heap.size w ((w.alloc (.cells #[u0, u1, u2, u3] t)).alloc (.cells #[v0, v1, v2, v3] t)) ∧ ((w.alloc (.cells #[u0, u1, u2, u3] t)).alloc (.cells #[v0, v1, v2, v3] t)).heap.size = w.heap.size + 2 := by
  refine ⟨by rw [Below.heap_alloc _ _ _ (by simp)]; exact heap_alloc_new w _, ?_, ((Below.refl _ _).alloc (Nat.le_refl _) _).alloc (by simp) _, by simp⟩
  have := heap_alloc_new (w.alloc (.cells #[u0, u1, u2, u3] t)) (.cells #[v0, v1, v2, v3] t)
  rwa [World.size_alloc] at this
set_option maxRecDepth 100000 in
set_option maxHeartbeats 4000000 in
theorem sameType_any (P : Nat → Prop) (k : Nat) : ∀ (F : Fo) (w : World) (kd nu kd' nu' : Int) (s s' : ByteArray) (A A' : Option Addr) (n c n' c' : Nat), F.cnt ≤ k → F.cnt ≤ 1000000 → (∀ b, P b → b < w.heap.size) → FoCells w P F (tyCells kd nu s A n c) → FoCells w P F (tyCells kd' nu' s' A' n' c') →
    Calls Try.prog 24 #[.agg #[.int .i64 kd, .int .i64 nu, .string s, .slice A n c], .agg #[.int .i64 kd', .int .i64 nu', .string s', .slice A' n' c']] w fun e w' => e = .returned (.bool true) ∧ Below w.heap.size w w' := by
  induction k with
  | zero =>
    intro F w kd nu kd' nu' s s' A A' n c n' c' hk _ _ h1 _
    rcases h1.parts with ⟨m, rfl, _⟩ | ⟨a, rfl, _⟩ <;> simp [Fo.cnt] at hk
  | succ k ih =>
    intro F w kd nu kd' nu' s s' A A' n c n' c' hk hk6 hP h1 h2
    have IH := hide ih; have HP := hide hP
    clear ih hP
    rcases h1.parts with ⟨m, rfl, rfl, rfl, rfl, rfl⟩ | ⟨a, rfl, rfl, rfl, ha⟩
    · rcases h2.parts with ⟨m', e, rfl, rfl, rfl, rfl⟩ | ⟨a', e, _⟩
      · obtain rfl : m = m' := by injection e
        have k1 : ((m : Int) != (m : Int)) = false := by simp
        clear h1 h2 e
        obtain ⟨b0, b1, bb, bz⟩ := box_four w (.int .i64 1) (.int .i64 (m : Int)) (.string ByteArray.empty) (.slice A 0 c) (.int .i64 1) (.int .i64 (m : Int)) (.string ByteArray.empty) (.slice A' 0 c') 48
        have Hbb := hide bb
        clear b0 b1 bb bz
        go_enter Try.func24, Try.ntmps24
        go_wp2
        go_loop [5] (fun vi => vi = .int .i64 0) (fun _ => 0)
        case atStart => rfl
        case round =>
          subst hrel
          go_wp2
          go_ret
          exact ⟨rfl, Hbb.out⟩
      · cases e
    · rcases h2.parts with ⟨m', e, _⟩ | ⟨a', e, rfl, rfl, ha'⟩
      · cases e
      · obtain ⟨rfl, rfl, rfl⟩ : kd = kd' ∧ s = s' ∧ a = a' := by injection e with e1 e2 e3; exact ⟨e1, e2, e3⟩
        have hak : a.cnt ≤ k := by simp only [Fo.cnt] at hk; omega
        have hal : a.len ≤ 1000000 := by have := a.len_le; simp only [Fo.cnt] at hk6; omega
        have hak6 : a.cnt ≤ 1000000 := by simp only [Fo.cnt] at hk6; omega
        have k0 : (kd != kd) = false := by simp
        have k1 : ((a.len : Int) != (a.len : Int)) = false := by simp
        obtain ⟨b0, b1, bb, bz⟩ := box_four w (.int .i64 kd) (.int .i64 0) (.string s) (.slice A a.len c) (.int .i64 kd) (.int .i64 0) (.string s) (.slice A' a.len c') 48
        obtain ⟨W0, hW0⟩ : ∃ W0, (w.alloc (.cells #[.int .i64 kd, .int .i64 0, .string s, .slice A a.len c] 48)).alloc (.cells #[.int .i64 kd, .int .i64 0, .string s, .slice A' a.len c'] 48) = W0 := ⟨_, rfl⟩
        rw [hW0] at b0 b1 bb bz
        have HW0 := hide hW0; have Hb0 := hide b0; have Hb1 := hide b1; have Hbb := hide bb; have Hbz := hide bz; have Ha := hide ha; have Ha' := hide ha'
        clear h1 h2 e hW0 b0 b1 bb bz ha ha'
        go_enter Try.func24, Try.ntmps24
        go_wp2
        simp only [HW0.out]
        go_loopw [5] (fun vi wr => ∃ i : Nat, vi = .int .i64 i ∧ i ≤ a.len ∧ Hid (Below W0.heap.size W0 wr)) (fun vi _ => a.len - (intOf vi).toNat)
        case atStart => exact ⟨0, rfl, by omega, hide (Below.refl _ _)⟩
        case round =>
          obtain ⟨i, rfl, hi, HB⟩ := hrel
          have hbz := Hbz.out
          obtain ⟨-, -, -, x3, -⟩ := four_cells ((HB.out.block _ (by omega)).trans Hb0.out)
          obtain ⟨-, -, -, y3, -⟩ := four_cells ((HB.out.block _ (by omega)).trans Hb1.out)
          have Hbw := hide (Hbb.out.trans (HB.out.mono (by omega)))
          have lw : w.heap.size < wr.heap.size := by have := HB.out.size; omega
          have lw1 : w.heap.size + 1 < wr.heap.size := by have := HB.out.size; omega
          clear hbz
          by_cases hlt : i < a.len
          · obtain ⟨b, off, kx, nx, sx, Bx, mx, cx, rfl, hb, p0, p1, p2, p3, hfo⟩ := Ha.out.nth i hlt
            obtain ⟨b', off', ky, ny, sy, By, my, cy, rfl, hb', q0, q1, q2, q3, hfo'⟩ := Ha'.out.nth i hlt
            have hbl := HP.out b hb
            have hbl' := HP.out b' hb'
            have p0 := (Hbw.out.cell (p := ⟨b, off + i * 4, none⟩) hbl).trans p0
            have p1 := (Hbw.out.cell (p := ⟨b, off + i * 4 + 1, none⟩) hbl).trans p1
            have p2 := (Hbw.out.cell (p := ⟨b, off + i * 4 + 2, none⟩) hbl).trans p2
            have p3 := (Hbw.out.cell (p := ⟨b, off + i * 4 + 3, none⟩) hbl).trans p3
            have q0 := (Hbw.out.cell (p := ⟨b', off' + i * 4, none⟩) hbl').trans q0
            have q1 := (Hbw.out.cell (p := ⟨b', off' + i * 4 + 1, none⟩) hbl').trans q1
            have q2 := (Hbw.out.cell (p := ⟨b', off' + i * 4 + 2, none⟩) hbl').trans q2
            have q3 := (Hbw.out.cell (p := ⟨b', off' + i * 4 + 3, none⟩) hbl').trans q3
            have lb : b < wr.heap.size := by omega
            have lb' : b' < wr.heap.size := by omega
            have HC := hide (fun W (hW : Below w.heap.size w W) => IH.out (a.nth i) W kx nx ky ny sx sy Bx By mx cx my cy (Nat.le_trans (a.nth_cnt i) hak) (Nat.le_trans (a.nth_cnt i) hak6) (fun b hb => Nat.lt_of_lt_of_le (HP.out b hb) hW.size) (FoCells.keep _ hfo (fun b hb => hb) (fun p hp => hW.cell (HP.out _ hp))) (FoCells.keep _ hfo' (fun b hb => hb) (fun p hp => hW.cell (HP.out _ hp))))
            clear hfo hfo' hb hb'
            go_upto_region 6 with fail
            go_region_held3 (fun w' => w'.cell? ⟨w.heap.size, 3, none⟩ = some (.slice (some ⟨b, off, none⟩) a.len c) ∧ w'.cell? ⟨w.heap.size + 1, 3, none⟩ = some (.slice (some ⟨b', off', none⟩) a.len c') ∧ w'.cell? ⟨b, off + i * 4, none⟩ = some (.int .i64 kx) ∧ w'.cell? ⟨b, off + i * 4 + 1, none⟩ = some (.int .i64 nx) ∧ w'.cell? ⟨b, off + i * 4 + 2, none⟩ = some (.string sx) ∧ w'.cell? ⟨b, off + i * 4 + 3, none⟩ = some (.slice Bx mx cx) ∧ w'.cell? ⟨b', off' + i * 4, none⟩ = some (.int .i64 ky) ∧ w'.cell? ⟨b', off' + i * 4 + 1, none⟩ = some (.int .i64 ny) ∧ w'.cell? ⟨b', off' + i * 4 + 2, none⟩ = some (.string sy) ∧ w'.cell? ⟨b', off' + i * 4 + 3, none⟩ = some (.slice By my cy)) (go_keep)
              (first | (go_at_call 24; refine (HC.out _ (by first | exact Hbw.out | exact Hbw.out.drew)).mono ?_; rintro e w' ⟨rfl, hb'⟩; have r0 := (hb'.cell (p := ⟨w.heap.size, 3, none⟩) lw).trans x3; have r1 := (hb'.cell (p := ⟨w.heap.size + 1, 3, none⟩) lw1).trans y3; have r2 := (hb'.cell (p := ⟨b, off + i * 4, none⟩) lb).trans p0; have r3 := (hb'.cell (p := ⟨b, off + i * 4 + 1, none⟩) lb).trans p1; have r4 := (hb'.cell (p := ⟨b, off + i * 4 + 2, none⟩) lb).trans p2; have r5 := (hb'.cell (p := ⟨b, off + i * 4 + 3, none⟩) lb).trans p3; have r6 := (hb'.cell (p := ⟨b', off' + i * 4, none⟩) lb').trans q0; have r7 := (hb'.cell (p := ⟨b', off' + i * 4 + 1, none⟩) lb').trans q1; have r8 := (hb'.cell (p := ⟨b', off' + i * 4 + 2, none⟩) lb').trans q2; have r9 := (hb'.cell (p := ⟨b', off' + i * 4 + 3, none⟩) lb').trans q3))
            have Hb2 := hide (HB.out.trans ((Below.refl _ _).drew.trans (hb'.mono HB.out.size)))
            rename_i hHeld
            clear hHeld hb' r0 r1 r2 r3 r4 r5 r6 r7 r8 r9 p0 p1 p2 p3 q0 q1 q2 q3 x3 y3
            go_wp2
            go_roundw
            case measure => simp [intOf]; omega
            case rel => exact ⟨i + 1, by go_num, by omega, Hb2⟩
          · go_wp2
            go_ret
            exact ⟨rfl, Hbw.out⟩
set_option maxRecDepth 100000 in
set_option maxHeartbeats 4000000 in
theorem sameTypes_any (P : Nat → Prop) (F : Fo) (w : World) (A A' : Option Addr) (c c' : Nat) (hk : F.cnt ≤ 1000000) (hP : ∀ b, P b → b < w.heap.size) (h1 : FoAt w P A F) (h2 : FoAt w P A' F) :
    Calls Try.prog 18 #[.slice A F.len c, .slice A' F.len c'] w fun e w' => e = .returned (.bool true) ∧ Below w.heap.size w w' := by
  have hal : F.len ≤ 1000000 := by have := F.len_le; omega
  have k1 : ((F.len : Int) != (F.len : Int)) = false := by simp
  have Ha := hide h1; have Ha' := hide h2; have HP := hide hP
  clear h1 h2 hP
  go_enter Try.func18, Try.ntmps18
  go_wp2
  go_loopw [5] (fun vi wr => ∃ i : Nat, vi = .int .i64 i ∧ i ≤ F.len ∧ Hid (Below w.heap.size w wr)) (fun vi _ => F.len - (intOf vi).toNat)
  case atStart => exact ⟨0, rfl, by omega, hide (Below.refl _ _)⟩
  case round =>
    obtain ⟨i, rfl, hi, Hbw⟩ := hrel
    have lw : w.heap.size ≤ wr.heap.size := Hbw.out.size
    by_cases hlt : i < F.len
    · obtain ⟨b, off, kx, nx, sx, Bx, mx, cx, rfl, hb, p0, p1, p2, p3, hfo⟩ := Ha.out.nth i hlt
      obtain ⟨b', off', ky, ny, sy, By, my, cy, rfl, hb', q0, q1, q2, q3, hfo'⟩ := Ha'.out.nth i hlt
      have hbl := HP.out b hb
      have hbl' := HP.out b' hb'
      have p0 := (Hbw.out.cell (p := ⟨b, off + i * 4, none⟩) hbl).trans p0
      have p1 := (Hbw.out.cell (p := ⟨b, off + i * 4 + 1, none⟩) hbl).trans p1
      have p2 := (Hbw.out.cell (p := ⟨b, off + i * 4 + 2, none⟩) hbl).trans p2
      have p3 := (Hbw.out.cell (p := ⟨b, off + i * 4 + 3, none⟩) hbl).trans p3
      have q0 := (Hbw.out.cell (p := ⟨b', off' + i * 4, none⟩) hbl').trans q0
      have q1 := (Hbw.out.cell (p := ⟨b', off' + i * 4 + 1, none⟩) hbl').trans q1
      have q2 := (Hbw.out.cell (p := ⟨b', off' + i * 4 + 2, none⟩) hbl').trans q2
      have q3 := (Hbw.out.cell (p := ⟨b', off' + i * 4 + 3, none⟩) hbl').trans q3
      have lb : b < wr.heap.size := by omega
      have lb' : b' < wr.heap.size := by omega
      have HC := hide (fun W (hW : Below w.heap.size w W) => sameType_any P _ (F.nth i) W kx nx ky ny sx sy Bx By mx cx my cy (Nat.le_refl _) (Nat.le_trans (F.nth_cnt i) hk) (fun b hb => Nat.lt_of_lt_of_le (HP.out b hb) hW.size) (FoCells.keep _ hfo (fun b hb => hb) (fun p hp => hW.cell (HP.out _ hp))) (FoCells.keep _ hfo' (fun b hb => hb) (fun p hp => hW.cell (HP.out _ hp))))
      clear hfo hfo' hb hb'
      go_upto_region 6 with fail
      go_region_held3 (fun w' => w'.cell? ⟨b, off + i * 4, none⟩ = some (.int .i64 kx) ∧ w'.cell? ⟨b, off + i * 4 + 1, none⟩ = some (.int .i64 nx) ∧ w'.cell? ⟨b, off + i * 4 + 2, none⟩ = some (.string sx) ∧ w'.cell? ⟨b, off + i * 4 + 3, none⟩ = some (.slice Bx mx cx) ∧ w'.cell? ⟨b', off' + i * 4, none⟩ = some (.int .i64 ky) ∧ w'.cell? ⟨b', off' + i * 4 + 1, none⟩ = some (.int .i64 ny) ∧ w'.cell? ⟨b', off' + i * 4 + 2, none⟩ = some (.string sy) ∧ w'.cell? ⟨b', off' + i * 4 + 3, none⟩ = some (.slice By my cy)) (go_keep)
        (first | (go_at_call 24; refine (HC.out _ (by first | exact Hbw.out | exact Hbw.out.drew)).mono ?_; rintro e w' ⟨rfl, hb'⟩; have r2 := (hb'.cell (p := ⟨b, off + i * 4, none⟩) lb).trans p0; have r3 := (hb'.cell (p := ⟨b, off + i * 4 + 1, none⟩) lb).trans p1; have r4 := (hb'.cell (p := ⟨b, off + i * 4 + 2, none⟩) lb).trans p2; have r5 := (hb'.cell (p := ⟨b, off + i * 4 + 3, none⟩) lb).trans p3; have r6 := (hb'.cell (p := ⟨b', off' + i * 4, none⟩) lb').trans q0; have r7 := (hb'.cell (p := ⟨b', off' + i * 4 + 1, none⟩) lb').trans q1; have r8 := (hb'.cell (p := ⟨b', off' + i * 4 + 2, none⟩) lb').trans q2; have r9 := (hb'.cell (p := ⟨b', off' + i * 4 + 3, none⟩) lb').trans q3))
      have Hb2 := hide (Hbw.out.trans ((Below.refl _ _).drew.trans (hb'.mono lw)))
      rename_i hHeld
      clear hHeld hb' r2 r3 r4 r5 r6 r7 r8 r9 p0 p1 p2 p3 q0 q1 q2 q3
      go_wp2
      go_roundw
      case measure => simp [intOf]; omega
      case rel => exact ⟨i + 1, by go_num, by omega, Hb2⟩
    · go_wp2
      go_ret
      exact ⟨rfl, Hbw.out⟩
end Go.Proofs.Ytafpbdmggnfdnaa

/- Plain: two stores whose classes are the same; what is alike stands for the same. -/
namespace Go.Proofs.Ytafpbdmggnfdnaa
set_option linter.unusedVariables false

theorem addNew_map (f : Nat → Nat) : ∀ (vs acc : List Nat), (∀ x ∈ acc ++ vs, ∀ y ∈ acc ++ vs, f x = f y → x = y) → addNew (acc.map f) (vs.map f) = (addNew acc vs).map f := by
  intro vs
  induction vs with
  | nil => intro acc _; rfl
  | cons v vs ih =>
    intro acc hinj
    have hmem : f v ∈ acc.map f ↔ v ∈ acc := by
      constructor
      · intro h
        obtain ⟨y, hy, e⟩ := List.mem_map.1 h
        have := hinj y (List.mem_append_left _ hy) v (by simp) e
        rwa [← this]
      · intro h; exact List.mem_map_of_mem h
    unfold addNew at ih ⊢
    rw [List.map_cons, List.foldl_cons, List.foldl_cons]
    by_cases hv : v ∈ acc
    · rw [if_pos hv, if_pos (hmem.2 hv)]
      exact ih acc (fun x hx y hy => hinj x (by simp at hx ⊢; rcases hx with h | h; exact .inl h; exact .inr (.inr h)) y (by simp at hy ⊢; rcases hy with h | h; exact .inl h; exact .inr (.inr h)))
    · rw [if_neg hv, if_neg (fun h => hv (hmem.1 h))]
      have := ih (acc ++ [v]) (fun x hx y hy => hinj x (by simpa using hx) y (by simpa using hy))
      simpa using this
theorem idxOf_map (f : Nat → Nat) : ∀ (l : List Nat) (v : Nat), (∀ x ∈ l, f x = f v → x = v) → (l.map f).idxOf (f v) = l.idxOf v := by
  intro l
  induction l with
  | nil => intro v _; rfl
  | cons a l ih =>
    intro v hinj
    rw [List.map_cons, List.idxOf_cons, List.idxOf_cons]
    by_cases h : a = v
    · subst h; simp
    · have h2 : ¬ f a = f v := fun e => h (hinj a List.mem_cons_self e)
      have h3 : (a == v) = false := by simpa using h
      have h4 : (f a == f v) = false := by simpa using h2
      rw [h3, h4]
      simp only [cond_false]
      rw [ih v (fun x hx => hinj x (List.mem_cons_of_mem _ hx))]
/-- The names of the variables don't matter. -/
theorem ren_mapv (f : Nat → Nat) (T : Fo) (hinj : ∀ x ∈ T.vars, ∀ y ∈ T.vars, f x = f y → x = y) : ren (T.mapv f) = ren T := by
  have e : addNew [] (T.vars.map f) = (addNew [] T.vars).map f := by
    have := addNew_map f T.vars [] (by simpa using hinj)
    simpa using this
  unfold ren
  rw [Fo.mapv_mapv, Fo.vars_mapv, e]
  refine Fo.mapv_congr T (fun v hv => ?_)
  refine idxOf_map f _ v (fun x hx he => ?_)
  have hx' : x ∈ T.vars := by simpa using (addNew_mem _ _ _).1 hx
  exact hinj x hx' v hv he
section
variable {N : List Nd} {c c' : Nat → Nat}
theorem tree_same {is : List Nat} {T T' : Fo} (hw : Wf N) (hcl : Closed N c) (hs : SameC N c c') (hc : ∀ i, i < N.length → c i < N.length ∧ c (c i) = c i) (hi : ∀ i ∈ is, i < N.length) (h : TreeOf N c is T) (h' : TreeOf N c' is T') : T'.cnt = T.cnt ∧ ren T' = ren T := by
  obtain ⟨F, hF, hT⟩ := h
  obtain ⟨F', hF', hT'⟩ := h'
  have e := Stands.same hw hcl hs.1 hs.2 hc hF hF' hT is T' hi hi rfl (fun k i j h1 h2 => by rw [h1] at h2; injection h2 with e; rw [e]) hT'
  have hr := hT.roots hw hc hi
  rw [e]
  refine ⟨Fo.cnt_mapv _ _, ren_mapv c' T (fun x hx y hy he => ?_)⟩
  have h1 := hr x hx
  have h2 := hr y hy
  have := hs.2 x y h1.1 h2.1 he
  rw [h1.2, h2.2] at this
  exact this
/-- Nodes of one class stand for the same. -/
theorem tree_pair {x y : Nat} {T : Fo} (hxy : c x = c y) (h : TreeOf N c [x, y] T) : ∃ A, TreeOf N c [x] A ∧ TreeOf N c [y] A ∧ T = A.app A ∧ A.len = 1 := by
  obtain ⟨F, hF, hT⟩ := h
  obtain ⟨A, B, rfl, h1, h2⟩ := Stands.split (is := [x]) (js := [y]) hT
  have h3 : Stands N c F [y] A := h1.congr rfl (fun k i j hi hj => by
    rcases k with _ | k
    · simp at hi hj; subst hi; subst hj; exact hxy
    · simp at hi)
  have e := h3.unique h2
  subst e
  exact ⟨A, ⟨F, hF, h1⟩, ⟨F, hF, h2⟩, rfl, h1.len⟩
theorem Fo.nth_app0 (A B : Fo) (h : A.len = 1) : (A.app B).nth 0 = A ∧ (A.app B).nth 1 = B.nth 0 := by
  cases A with
  | nil => simp [Fo.len] at h
  | var n r =>
    cases r with
    | nil => exact ⟨rfl, rfl⟩
    | var _ _ => simp [Fo.len] at h
    | con _ _ _ _ => simp [Fo.len] at h
  | con k m a r =>
    cases r with
    | nil => exact ⟨rfl, rfl⟩
    | var _ _ => simp [Fo.len] at h
    | con _ _ _ _ => simp [Fo.len] at h
theorem Fo.nth_one (A : Fo) (h : A.len = 1) : A.nth 0 = A := by
  have := (Fo.nth_app0 A .nil h).1
  rwa [Fo.app_nil] at this
/-- What is alike has the same tree. -/
theorem alike_tree {F e : Nat → Nat} (hw : Wf N) (hcl : Closed N c) (hc : ∀ i, i < N.length → c i < N.length ∧ c (c i) = c i) (hF : ∀ i, i < N.length → Form N c (c i) (F (c i))) (hr : Resp N.length c e) (hce : Closed N e) (hst : Still N c e) :
    ∀ {is : List Nat} {T : Fo}, Stands N c F is T → ∀ {js : List Nat} {U : Fo}, Stands N c F js U → (∀ i ∈ is, i < N.length) → (∀ j ∈ js, j < N.length) → is.length = js.length → (∀ (k i j : Nat), is[k]? = some i → js[k]? = some j → e i = e j) → T = U := by
  have hvar : ∀ i p, i < N.length → N[F (c i)]? = some p → p.kind = 1 → VarCls N c i := by
    intro i p hi hp hk j q hj hji
    exact (hF i hi).vars hp hk j q hj hji
  intro is T h
  induction h with
  | nil =>
    intro js U hU _ _ hl _
    rcases js with _ | ⟨j, js⟩
    · cases hU; rfl
    · simp at hl
  | @var i is T p hp hk hr' ih =>
    intro js U hU hi hj hl hm
    rcases js with _ | ⟨j, js⟩
    · simp at hl
    · have hil := hi i List.mem_cons_self
      have hjl := hj j List.mem_cons_self
      have hij := hst i j hil hjl (hvar i p hil hp hk) (hm 0 i j rfl rfl)
      have hrest := fun U' hU' => ih (js := js) (U := U') hU' (fun x hx => hi x (List.mem_cons_of_mem _ hx)) (fun x hx => hj x (List.mem_cons_of_mem _ hx)) (by simpa using hl) (fun k x y hx hy => hm (k + 1) x y (by simpa using hx) (by simpa using hy))
      cases hU with
      | @var _ _ U' q hq hkq hrU => rw [hrest U' hrU, hij]
      | @con _ _ _ _ q hq hkq _ _ => rw [← hij, hp] at hq; injection hq with hq; subst hq; exact absurd hk hkq
  | @con i is A T p hp hk ha hr' iha ih =>
    intro js U hU hi hj hl hm
    rcases js with _ | ⟨j, js⟩
    · simp at hl
    · have hil := hi i List.mem_cons_self
      have hjl := hj j List.mem_cons_self
      have hij := hm 0 i j rfl rfl
      have hrest := fun U' hU' => ih (js := js) (U := U') hU' (fun x hx => hi x (List.mem_cons_of_mem _ hx)) (fun x hx => hj x (List.mem_cons_of_mem _ hx)) (by simpa using hl) (fun k x y hx hy => hm (k + 1) x y (by simpa using hx) (by simpa using hy))
      cases hU with
      | @var _ _ U' q hq hkq hrU =>
        have := hst j i hjl hil (hvar j q hjl hq hkq) hij.symm
        rw [this, hp] at hq; injection hq with hq; subst hq; exact absurd hkq hk
      | @con _ _ A' U' q hq hkq haU hrU =>
        have Fi := hF i hil
        have Fj := hF j hjl
        have he : e (F (c i)) = e (F (c j)) := by rw [hr (F (c i)) i Fi.lt hil Fi.cls, hij, hr j (F (c j)) hjl Fj.lt Fj.cls.symm]
        obtain ⟨hh, hargs⟩ := hce _ _ p q hp hq he hk hkq
        have hlt : ∀ {f : Nat} {p : Nd}, N[f]? = some p → ∀ x ∈ p.args, x < N.length := by
          intro f p hp x hx
          have h1 := (hw _ p hp).1 x hx
          have h2 := (List.getElem?_eq_some_iff.1 hp).1
          omega
        rw [hrest U' hrU, iha haU (hlt hp) (hlt hq) hh.2.2 hargs, hh.1, hh.2.1]
theorem Stands.mem_cnt {F : Nat → Nat} {is : List Nat} {T : Fo} (h : Stands N c F is T) : ∀ x ∈ is, ∀ B, Stands N c F [x] B → B.cnt ≤ T.cnt := by
  induction is generalizing T with
  | nil => intro x hx; simp at hx
  | cons y is ih =>
    obtain ⟨A, C, rfl, h1, h2⟩ := Stands.split (is := [y]) (js := is) h
    intro x hx B hB
    rw [Fo.cnt_app]
    rcases List.mem_cons.1 hx with rfl | hx
    · rw [hB.unique h1]; omega
    · have := ih h2 x hx B hB; omega
open Classical in
/-- Two that are alike already: to make them one makes no cycle. -/
theorem alike_acyc {a b : Nat} {cl : Nat → Nat} (hw : Wf N) (hcl : Closed N c) (hc : ∀ i, i < N.length → c i < N.length ∧ c (c i) = c i) {F : Nat → Nat} (hF : ∀ i, i < N.length → Form N c (c i) (F (c i))) (hac : Acyc N c) (hal : AlikeIn N c a b) (hl : Least N c a b cl) : Acyc N cl := by
  obtain ⟨e, he, hst⟩ := hal
  have hex : ∀ i, i < N.length → ∃ T, Stands N c F [i] T := fun i hi => Stands.exists hw (fun i hi => (hc i hi).1) hF hac [i] (by simpa using hi)
  refine ⟨fun i => if h : ∃ T, Stands N c F [i] T then (Classical.choose h).cnt else 0, fun i j hi hj hij => ?_, fun i p hp x hx => ?_⟩
  · obtain ⟨T, hT⟩ := hex i hi
    obtain ⟨U, hU⟩ := hex j hj
    have hij' : e i = e j := hl.least e he i j hi hj hij
    have := alike_tree hw hcl hc hF he.resp he.closed hst hT hU (by simpa using hi) (by simpa using hj) rfl (fun k x y hx hy => by
      rcases k with _ | k
      · simp at hx hy; subst hx; subst hy; exact hij'
      · simp at hx)
    subst this
    have h1 : ∃ T, Stands N c F [i] T := ⟨T, hT⟩
    have h2 : ∃ T, Stands N c F [j] T := ⟨T, hU⟩
    simp only [dif_pos h1, dif_pos h2]
    rw [(Classical.choose_spec h1).unique hT, (Classical.choose_spec h2).unique hU]
  · have hil := (List.getElem?_eq_some_iff.1 hp).1
    have hxl : x < N.length := by have := (hw i p hp).1 x hx; omega
    obtain ⟨T, hT⟩ := hex i hil
    obtain ⟨U, hU⟩ := hex x hxl
    have h1 : ∃ T, Stands N c F [x] T := ⟨U, hU⟩
    have h2 : ∃ T, Stands N c F [i] T := ⟨T, hT⟩
    simp only [dif_pos h1, dif_pos h2]
    rw [(Classical.choose_spec h1).unique hU, (Classical.choose_spec h2).unique hT]
    have hpk : p.kind ≠ 1 := fun e => by rw [(hw i p hp).2 e] at hx; simp at hx
    obtain ⟨A, T', rfl, ha, hr⟩ := Stands.con_of hw hcl hF hil hp rfl hpk hT
    cases hr
    have := ha.mem_cnt x hx U hU
    simp only [Fo.cnt]; omega
/-- Again: what is one stays one. -/
theorem uni_again {a b : Nat} {err : Int} {cl : Nat → Nat} (ha : a < N.length) (hb : b < N.length) (hcl : Closed N c) (hac : Acyc N c) (h : c a = c b) (hu : UniSaid N c (a : Int) (b : Int) err cl) : err = 0 := by
  have hg : Good N c a b c := ⟨fun _ _ _ _ e => e, h, hcl⟩
  rcases hu with ⟨h1, _⟩ | ⟨_, ⟨h1, _⟩ | ⟨_, _, h1⟩ | ⟨_, _, ck, h1, h2⟩⟩
  · rw [allIn_two ha hb] at h1; cases h1
  · exact h1
  · exact absurd (by simpa using hg) (h1 c)
  · exact absurd (hac.of (h1.least c (by simpa using hg))) h2
/-- Refused: it wasn't alike. -/
theorem uni_refused {a b : Nat} {err : Int} {cl : Nat → Nat} (ha : a < N.length) (hb : b < N.length) (hw : Wf N) (hcl : Closed N c) (hc : ∀ i, i < N.length → c i < N.length ∧ c (c i) = c i) {F : Nat → Nat} (hF : ∀ i, i < N.length → Form N c (c i) (F (c i))) (hac : Acyc N c) (hu : UniSaid N c (a : Int) (b : Int) err cl) (h0 : err ≠ 0) : cl = c ∧ ¬ AlikeIn N c a b ∧ (err = 131 ∨ err = 130) := by
  rcases hu with ⟨h1, _⟩ | ⟨_, ⟨h1, _⟩ | ⟨h1, h2, h3⟩ | ⟨h1, h2, ck, h3, h4⟩⟩
  · rw [allIn_two ha hb] at h1; cases h1
  · exact absurd h1 h0
  · refine ⟨h2, ?_, .inl h1⟩
    rintro ⟨e, he, _⟩
    exact h3 e (by simpa using he)
  · refine ⟨h2, fun hal => ?_, .inr h1⟩
    simp only [Int.toNat_natCast] at h3
    exact h4 (alike_acyc hw hcl hc hF hac hal h3)
end
end Go.Proofs.Ytafpbdmggnfdnaa
