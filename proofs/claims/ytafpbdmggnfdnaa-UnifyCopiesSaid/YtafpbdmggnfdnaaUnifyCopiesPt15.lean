/- Part 15 of the proof of UnifyCopies: what follows was kept as these texts: RefVars, RefSize. -/
import Derived.Test.YtafpbdmggnfdnaaUnifyCopiesPt1
import Derived.Test.YtafpbdmggnfdnaaUnifyCopiesPt2
import Derived.Test.YtafpbdmggnfdnaaUnifyCopiesPt3
import Derived.Test.YtafpbdmggnfdnaaUnifyCopiesPt4
import Derived.Test.YtafpbdmggnfdnaaUnifyCopiesPt5
import Derived.Test.YtafpbdmggnfdnaaUnifyCopiesPt6
import Derived.Test.YtafpbdmggnfdnaaUnifyCopiesPt7
import Derived.Test.YtafpbdmggnfdnaaUnifyCopiesPt8
import Derived.Test.YtafpbdmggnfdnaaUnifyCopiesPt9
import Derived.Test.YtafpbdmggnfdnaaUnifyCopiesPt10
import Derived.Test.YtafpbdmggnfdnaaUnifyCopiesPt11
import Derived.Test.YtafpbdmggnfdnaaUnifyCopiesPt12
import Derived.Test.YtafpbdmggnfdnaaUnifyCopiesPt13
import Derived.Test.YtafpbdmggnfdnaaUnifyCopiesPt14
import Derived.Deep.QuietTactic
import Derived.BigQuiet
/- The reference's Vars: a type's variables, behind others. -/
namespace Go.Proofs.Ytafpbdmggnfdnaa
open Go.RowKit Go.Maps
set_option linter.unusedVariables false

def Fo.upto (a : Fo) (i : Nat) : List Nat := (List.range i).flatMap fun k => (a.nth k).vars
theorem Fo.upto_all (a : Fo) : a.upto a.len = a.vars := by
  have shift : ∀ (n : Nat) (r : Fo) (f : Nat → List Nat), (∀ k, f (k + 1) = (r.nth k).vars) → (List.range (n + 1)).flatMap f = f 0 ++ r.upto n := by
    intro n r f hf
    rw [List.range_succ_eq_map, List.flatMap_cons]
    congr 1
    unfold Fo.upto
    rw [List.flatMap_map]
    congr 1
    funext k
    exact hf k
  induction a with
  | nil => rfl
  | var n r ih =>
    have := shift r.len r (fun k => ((Fo.var n r).nth k).vars) (fun k => rfl)
    unfold Fo.upto at this ih ⊢
    simp only [Fo.len]
    rw [this, ih]; rfl
  | con k m x r _ ih =>
    have := shift r.len r (fun j => ((Fo.con k m x r).nth j).vars) (fun j => rfl)
    unfold Fo.upto at this ih ⊢
    simp only [Fo.len]
    rw [this, ih]
    simp [Fo.nth, Fo.vars]
theorem Fo.upto_succ (a : Fo) (i : Nat) : a.upto (i + 1) = a.upto i ++ (a.nth i).vars := by
  unfold Fo.upto
  rw [List.range_succ, List.flatMap_append]; simp
theorem Fo.upto_len (a : Fo) : ∀ i, i ≤ a.len → (a.upto i).length ≤ a.vars.length := by
  intro i hi
  have h1 : (a.upto i).length ≤ (a.upto a.len).length := by
    obtain ⟨k, hk⟩ : ∃ k, a.len = i + k := ⟨a.len - i, by omega⟩
    rw [hk]
    clear hi hk
    induction k with
    | zero => exact Nat.le_refl _
    | succ k ih => rw [← Nat.add_assoc, a.upto_succ (i + k), List.length_append]; omega
  rwa [Fo.upto_all] at h1
/-- No type of a name is a variable. -/
def Fo.Proper : Fo → Prop
  | .nil => True
  | .var _ r => r.Proper
  | .con k _ a r => k ≠ 1 ∧ a.Proper ∧ r.Proper
theorem Fo.nth_proper (a : Fo) : ∀ i, a.Proper → (a.nth i).Proper := by
  induction a with
  | nil => intro i h; trivial
  | var n r ih =>
    intro i h
    cases i with
    | zero => trivial
    | succ i => exact ih i h
  | con k m x r _ ih =>
    intro i h
    cases i with
    | zero => exact ⟨h.1, h.2.1, trivial⟩
    | succ i => exact ih i h.2.2
theorem Stands.proper {N : List Nd} {c F : Nat → Nat} {is : List Nat} {T : Fo} (h : Stands N c F is T) : T.Proper := by
  induction h with
  | nil => trivial
  | var _ _ _ ih => exact ih
  | con _ hk _ _ iha ih => exact ⟨hk, iha, ih⟩
def VarsPost (w : World) (B : Nat) (vm : Value) (ms : List Nat) (e : Ending) (w' : World) : Prop :=
  ∃ vm', e = .returned vm' ∧ w'.ownsRow B 3 1 vm' ms.length (nats ms) ∧ Only (fun b => vm.ownBlock = some b) w w' ∧ ∀ b, vm'.ownBlock = some b → vm.ownBlock = some b ∨ w.heap.size ≤ b
structure VsRel (W0 : World) (B : Nat) (vm0 : Value) (met : List Nat) (a : Fo) (vm : Value) (i : Nat) (wr : World) : Prop where
  own : wr.ownsRow B 3 1 vm (addNew met (a.upto i)).length (nats (addNew met (a.upto i)))
  only : Only (fun b => vm0.ownBlock = some b) W0 wr
  old : ∀ b, vm.ownBlock = some b → vm0.ownBlock = some b ∨ W0.heap.size ≤ b
set_option maxRecDepth 100000 in
set_option maxHeartbeats 4000000 in
theorem rvars_any (P : Nat → Prop) (B : Nat) (k : Nat) : ∀ (T : Fo) (met : List Nat) (vm : Value) (w : World) (kd nu : Int) (s : ByteArray) (A : Option Addr) (n c : Nat), T.Proper → T.cnt ≤ k → T.cnt ≤ 1000000 → met.length + T.vars.length ≤ 1000000 → B ≤ w.heap.size → (∀ b, P b → b < w.heap.size ∧ vm.ownBlock ≠ some b) → w.ownsRow B 3 1 vm met.length (nats met) → FoCells w P T (tyCells kd nu s A n c) →
    Calls Try.prog 44 #[vm, .agg #[.int .i64 kd, .int .i64 nu, .string s, .slice A n c]] w (VarsPost w B vm (addNew met T.vars)) := by
  induction k with
  | zero =>
    intro T met vm w kd nu s A n c _ hk _ _ _ _ _ h1
    rcases h1.parts with ⟨m, rfl, _⟩ | ⟨a, rfl, _⟩ <;> simp [Fo.cnt] at hk
  | succ k ih =>
    intro T met vm w kd nu s A n c hpr hk hk5 hk6 hB hP hown h1
    have IH := hide ih
    obtain ⟨A0, cap0, hvm, -, -⟩ := own_len hown
    subst hvm
    have hml : met.length ≤ 1000000 := by omega
    obtain ⟨W0, hW0⟩ : ∃ W0, w.alloc (.cells #[.int .i64 kd, .int .i64 nu, .string s, .slice A n c] 48) = W0 := ⟨_, rfl⟩
    have hb0 : Below w.heap.size w W0 := by rw [← hW0]; exact (Below.refl _ _).alloc (Nat.le_refl _) _
    have hbx : W0.heap[w.heap.size]? = some (.cells #[.int .i64 kd, .int .i64 nu, .string s, .slice A n c] 48 (0, 0)) := by rw [← hW0]; exact heap_alloc_new w _
    have hz0 : w.heap.size < W0.heap.size := (Array.getElem?_eq_some_iff.1 hbx).1
    have hown0 := own_keep hown (fun b hb => hb0.block b (hown.lt b hb).2)
    have HW0 := hide hW0; have Hb0 := hide hb0; have Hbx := hide hbx; have Hown := hide hown; have Hown0 := hide hown0; have HP := hide hP
    obtain ⟨i1, ki, kz0, kz1, kz2⟩ := info_parts intInfo
    have Ki := hide ki; have Kz0 := hide kz0; have Kz1 := hide kz1; have Kz2 := hide kz2
    clear ih hW0 hb0 hbx hown hown0 hP ki kz0 kz1 kz2
    rcases h1.parts with ⟨m, rfl, rfl, rfl, rfl, rfl⟩ | ⟨a, rfl, rfl, rfl, ha⟩
    · have hml1 : met.length + 1 ≤ 1000000 := by simp [Fo.vars] at hk6; omega
      clear h1 IH hk6
      obtain ⟨x0, x1, -, -, -⟩ := four_cells Hbx.out
      obtain ⟨A0', c0', hA0, hN0, -⟩ := nats_of_own Hown0.out
      obtain rfl : A0 = A0' := by injection hA0
      have HN0 := hide hN0
      clear hA0 hN0
      go_enter Try.func44, Try.ntmps44
      go_wp2
      simp only [HW0.out]
      go_loopw [5] (fun vi wr => ∃ i q : Nat, vi = .int .i64 i ∧ i ≤ met.length ∧ wr = W0.drewN q ∧ Hid (m ∉ met.take i)) (fun vi _ => met.length - (intOf vi).toNat)
      case atStart => exact ⟨0, 0, rfl, by omega, rfl, hide (by simp)⟩
      case round =>
        obtain ⟨i, q, rfl, hi, rfl, HNi⟩ := hrel
        by_cases hlt : i < met.length
        · obtain ⟨b1, o1, rfl, hb1, e1⟩ := HN0.out.at_ i (by simpa [cast] using hlt)
          simp only [cast, List.getElem_map] at e1
          obtain ⟨y, hy⟩ : ∃ y, met[i] = y := ⟨_, rfl⟩
          rw [hy] at e1
          have Hy := hide hy
          have e1' : (W0.drewN q).cell? ⟨b1, o1 + i, none⟩ = some (.int .i64 (y : Int)) := e1
          have x0' : (W0.drewN q).cell? ⟨w.heap.size, 0, none⟩ = some (.int .i64 1) := x0
          have x1' : (W0.drewN q).cell? ⟨w.heap.size, 1, none⟩ = some (.int .i64 (m : Int)) := x1
          have j1 : (i : Int) < (met.length : Int) := by omega
          have j2 : (0 : Int) ≤ (i : Int) := by omega
          obtain ⟨W1, hW1⟩ : ∃ W1, W0.drewN q = W1 := ⟨_, rfl⟩
          rw [hW1] at e1' x0' x1'
          simp only [hW1]
          have HW1 := hide hW1
          clear hy hW1
          by_cases hym : y = m
          · subst hym
            have jj : ((y : Int) == (y : Int)) = true := by simp
            have Hmem : Hid (y ∈ met) := hide (by rw [← Hy.out]; exact List.getElem_mem _)
            go_wp2
            go_quiet (fail)
            go_wp2
            go_ret
            refine ⟨_, rfl, ?_, ?_, fun b hb => .inl hb⟩
            · have : addNew met (Fo.var y .nil).vars = met := addNew_old met _ (by simpa [Fo.vars] using Hmem.out)
              rw [this]
              rw [← HW1.out]
              exact Hown0.out
            · rw [← HW1.out]
              exact Only.of_below (below_drewN (below_drewN Hb0.out _) _) _
          · have jj : ((y : Int) == (m : Int)) = false := by simp; omega
            go_wp2
            go_quiet (fail)
            go_wp2
            go_roundw
            case measure => simp [intOf]; omega
            case rel =>
              refine ⟨i + 1, q + nq, by go_num, by omega, by rw [← HW1.out]; simp [World.drewN, Nat.add_assoc], hide ?_⟩
              rw [List.take_succ_eq_append_getElem hlt, Hy.out, List.mem_append]
              rintro (h | h)
              · exact HNi.out h
              · simp at h; exact hym h.symm
        · obtain rfl : i = met.length := by omega
          have Hnot : Hid (m ∉ met) := hide (by have := HNi.out; rwa [List.take_of_length_le (Nat.le_refl _)] at this)
          have x0' : (W0.drewN q).cell? ⟨w.heap.size, 0, none⟩ = some (.int .i64 1) := x0
          have x1' : (W0.drewN q).cell? ⟨w.heap.size, 1, none⟩ = some (.int .i64 (m : Int)) := x1
          have hown1 : (W0.drewN q).ownsRow B 3 1 (.slice A0 met.length cap0) met.length (nats met) := Hown0.out
          have hbw1 : Below w.heap.size w (W0.drewN q) := below_drewN Hb0.out _
          have hzz : (W0.drewN q).heap.size = W0.heap.size := rfl
          have hz1 : w.heap.size < (W0.drewN q).heap.size := hz0
          obtain ⟨W1, hW1⟩ : ∃ W1, W0.drewN q = W1 := ⟨_, rfl⟩
          rw [hW1] at x0' x1' hown1 hbw1 hz1
          simp only [hW1]
          have O1 := hide (hown1.alloc (.cells #[.int .i64 (m : Int)] 3))
          have N1 := hide (one_new W1 (.int .i64 (m : Int)) 3)
          have E1 : Hid (∀ u ∈ [Value.int .i64 (m : Int)], u.oneCell' = true) := hide (by simp [Value.oneCell'])
          have Hbw1 := hide hbw1
          clear hW1 hown1 hbw1 hzz HNi
          go_wp2_with (at_builtin; refine wpList_append_own_at _ rfl (.tmp 24) (.tmp 27) 30 rfl B 3 i1 (.int .i64 0) 1 8 Try.underlying30 Ki.out Kz0.out Kz1.out Kz2.out rfl (by decide) (.slice A0 met.length cap0) met.length (nats met) rfl O1.out ⟨W1.heap.size, 0, none⟩ 1 1 [.int .i64 (m : Int)] rfl rfl N1.out E1.out (by unfold maxLen; omega) (by omega) (by simp; omega) ?_; intro v8 W8 own8 grow8 nil8 at8; clear nil8; have Hown8 := hide own8; have Hgrow8 := hide grow8; have Hat8 := hide at8; clear own8 grow8 at8)
          go_ret
          refine ⟨v8, rfl, ?_, ((Only.of_below Hbw1.out _).alloc _).grown Hgrow8.out (fun b hb => .inl hb), fun b hb => ?_⟩
          · have e : addNew met (Fo.var m .nil).vars = met ++ [m] := addNew_one met m Hnot.out
            rw [e, List.length_append, nats_snoc]
            exact Hown8.out
          · rcases Hat8.out with e | e
            · exact .inl (by rw [← e]; exact hb)
            · rw [e, World.size_alloc] at hb; injection hb with hb; exact .inr (by omega)
    · have Ha := hide ha
      have hak : a.cnt ≤ k := by simp only [Fo.cnt] at hk; omega
      have hal : a.len ≤ 1000000 := by have := a.len_le; simp only [Fo.cnt] at hk5; omega
      have hak5 : a.cnt ≤ 1000000 := by simp only [Fo.cnt] at hk5; omega
      have hvars : (Fo.con kd s a .nil).vars = a.vars := by simp [Fo.vars]
      rw [hvars] at hk6 ⊢
      have HR0 : Hid (VsRel W0 B (.slice A0 met.length cap0) met a (.slice A0 met.length cap0) 0 W0) := hide ⟨by simpa [Fo.upto, addNew] using Hown0.out, Only.refl _ _, fun b hb => .inl hb⟩
      obtain ⟨x0, -, -, x3, -⟩ := four_cells Hbx.out
      have kk : (kd == 1) = false := by have := hpr.1; simpa using this
      have Hpr := hide hpr.2.1
      · clear hpr h1 ha hvars hk hk5
        go_enter Try.func44, Try.ntmps44
        go_wp2
        simp only [HW0.out]
        go_loopw [0, 6] (fun vm vi wr => ∃ i : Nat, vi = .int .i64 i ∧ i ≤ a.len ∧ VsRel W0 B (.slice A0 met.length cap0) met a vm i wr) (fun _ vi _ => a.len - (intOf vi).toNat)
        case atStart => exact ⟨0, rfl, by omega, HR0.out⟩
        case round =>
          obtain ⟨i, rfl, hi, Rr⟩ := hrel
          clear HR0 x0 x3
          have hne : (Value.slice A0 met.length cap0).ownBlock ≠ some w.heap.size := fun e => by have := (Hown.out.lt _ e).2; omega
          obtain ⟨x0, -, -, x3, -⟩ := four_cells ((Rr.only.block w.heap.size hz0 hne).trans Hbx.out)
          have HRr := hide Rr
          clear Rr hne
          by_cases hlt : i < a.len
          · obtain ⟨b, off, kx, nx, sx, Bx, mx, cx, rfl, hb, p0, p1, p2, p3, hfo⟩ := Ha.out.nth i hlt
            have hPb := HP.out b hb
            have hkeep : ∀ p : Addr, P p.block → wr.cell? p = w.cell? p := fun p hp => (HRr.out.only.cell (Nat.lt_of_lt_of_le (HP.out _ hp).1 (by omega)) (HP.out _ hp).2).trans (Hb0.out.cell (HP.out _ hp).1)
            have p0 := (hkeep ⟨b, off + i * 4, none⟩ hb).trans p0
            have p1 := (hkeep ⟨b, off + i * 4 + 1, none⟩ hb).trans p1
            have p2 := (hkeep ⟨b, off + i * 4 + 2, none⟩ hb).trans p2
            have p3 := (hkeep ⟨b, off + i * 4 + 3, none⟩ hb).trans p3
            have hzr := HRr.out.only.size
            have hmon := addNew_len met (a.upto i)
            have hup := a.upto_len (i + 1) (by omega)
            rw [a.upto_succ, List.length_append] at hup
            have HC := hide (IH.out (a.nth i) (addNew met (a.upto i)) u0 wr kx nx sx Bx mx cx (a.nth_proper i Hpr.out) (Nat.le_trans (a.nth_cnt i) hak) (Nat.le_trans (a.nth_cnt i) hak5) (by omega) (by omega) (fun b' hb' => ⟨by have := (HP.out b' hb').1; omega, fun e => by
              rcases HRr.out.old b' e with e2 | e2
              · exact (HP.out b' hb').2 e2
              · have := (HP.out b' hb').1; omega⟩) HRr.out.own (FoCells.keep _ hfo (fun _ h => h) hkeep))
            have Hnext : Hid (addNew (addNew met (a.upto i)) (a.nth i).vars = addNew met (a.upto (i + 1))) := hide (by rw [a.upto_succ, addNew_append])
            have lb : b < wr.heap.size := by omega
            clear hfo hkeep hmon hup hb
            go_wp2_with fail
            refine HC.out.mono ?_
            rintro e W4 ⟨v4, rfl, ho4, hon4, hat4⟩
            rw [Hnext.out] at ho4
            have HN : Hid (VsRel W0 B (.slice A0 met.length cap0) met a v4 (i + 1) W4) := hide ⟨ho4, HRr.out.only.then_ hon4 (fun b' hb' hl => by
              rcases HRr.out.old b' hb' with e2 | e2
              · exact e2
              · omega), fun b' hb' => by
              rcases hat4 b' hb' with e2 | e2
              · exact HRr.out.old b' e2
              · exact .inr (by omega)⟩
            clear ho4 hon4 hat4 HC
            go_wp2
            go_roundw
            case measure => simp [intOf]; omega
            case rel => exact ⟨i + 1, by go_num, by omega, HN.out⟩
          · obtain rfl : i = a.len := by omega
            have Hall : Hid (a.upto a.len = a.vars) := hide a.upto_all
            go_wp2
            go_ret
            refine ⟨u0, rfl, by rw [← Hall.out]; exact HRr.out.own, (Only.of_below Hb0.out _).then_ HRr.out.only (fun b hb _ => hb), fun b hb => ?_⟩
            rcases HRr.out.old b hb with e2 | e2
            · exact .inl e2
            · exact .inr (by omega)
end Go.Proofs.Ytafpbdmggnfdnaa

/- The reference's store: size, Size. -/
namespace Go.Proofs.Ytafpbdmggnfdnaa
open Go.RowKit
set_option linter.unusedVariables false

def idF : Nat → Nat := fun i => i
theorem capped_add (a b : Nat) (h : 1 ≤ a) : capped (a + b) = if 301 < capped a + capped b then 301 else capped a + capped b := by
  unfold capped
  repeat' split
  all_goals omega
theorem capped_le (n : Nat) : capped n ≤ 301 := by unfold capped; split <;> omega
theorem capped_pos {n : Nat} (h : 0 < n) : 0 < capped n := by unfold capped; split <;> omega
theorem capped_one : capped 1 = 1 := rfl
/-- What is known of nodes' sizes. -/
def KnownOk (N : List Nd) (c : Nat → Nat) (l : List Nat) : Prop := ∀ m, 0 < par l m → ∃ T, Stands N c idF [m] T ∧ par l m = capped T.cnt
def RSizePost (w : World) (R : RS) (c : Nat → Nat) (gs : Nat) (T : Fo) (e : Ending) (w' : World) : Prop :=
  e = .returned (.int .i64 (capped T.cnt : Int)) ∧ Only (fun b => b = gs) w w' ∧ ∃ l', l'.length = R.nodes.length ∧ Arr w' gs l' ∧ KnownOk R.nodes c l'
structure SzRel (W1 : World) (R : RS) (c : Nat → Nat) (gs : Nat) (args : List Nat) (A : Fo) (kk i : Nat) (li : List Nat) (wr : World) : Prop where
  only : Only (fun b => b = gs) W1 wr
  len : li.length = R.nodes.length
  arr : Arr wr gs li
  known : KnownOk R.nodes c li
  parts : ∃ Ai Ri, A = Ai.app Ri ∧ Stands R.nodes c idF (args.take i) Ai ∧ Stands R.nodes c idF (args.drop i) Ri ∧ kk = capped (1 + Ai.cnt)
theorem Stands.root {N : List Nd} {c F : Nat → Nat} {x : Nat} {T : Fo} (h : Stands N c F [x] T) (hc : c (c x) = c x) : Stands N c F [c x] T := h.congr rfl (fun k i j hi hj => by
  rcases k with _ | k
  · simp at hi hj; subst hi; subst hj; exact hc.symm
  · simp at hi)
theorem Stands.cnt_pos {N : List Nd} {c F : Nat → Nat} {x : Nat} {T : Fo} (h : Stands N c F [x] T) : 0 < T.cnt := by
  cases h with
  | var _ _ _ => simp only [Fo.cnt]; omega
  | con _ _ _ _ => simp only [Fo.cnt]; omega
set_option maxRecDepth 100000 in
set_option maxHeartbeats 4000000 in
theorem rsize_any {v : Value} {ad : List (Option Addr × Nat)} {R : RS} {c d : Nat → Nat} (hi : RInv R c d) (gs : Nat) (hvg : v.ownBlock ≠ some gs) (hag : ∀ (i : Nat) (a : Option Addr × Nat), ad[i]? = some a → ∀ z, a.1 = some z → z.block ≠ gs) (k : Nat) : ∀ (x : Nat) (T : Fo) (l : List Nat) (w : World), T.cnt ≤ k → x < R.nodes.length → l.length = R.nodes.length → Stands R.nodes c idF [x] T → RSt w v ad R → Arr w gs l → KnownOk R.nodes c l →
    Calls Try.prog 40 #[.agg #[v], .int .i64 (x : Int), .slice (some ⟨gs, 0, none⟩) l.length l.length] w (RSizePost w R c gs T) := by
  induction k with
  | zero =>
    intro x T l w hk _ _ hS
    have := hS.cnt_pos
    omega
  | succ k ih =>
    intro x T l w hk hx hl hS h ha hkn
    obtain ⟨g, cap0, hv0, hcap0⟩ := own_pos h.own (by omega)
    subst hv0
    have hm := h.many
    have hgl : g < w.heap.size := h.lt g rfl
    have hgsl := ha.lt
    have hroot := hi.root x hx
    have hb1 : Below w.heap.size w (w.alloc (.cells #[.slice (some ⟨g, 0, none⟩) R.nodes.length cap0] 29)) := (Below.refl _ _).alloc (Nat.le_refl _) _
    have HF := hide (rfind_any (h.later hb1) hi.forest x hx)
    have hbox := heap_alloc_new w (.cells #[.slice (some ⟨g, 0, none⟩) R.nodes.length cap0] 29)
    have hz1 : (w.alloc (.cells #[.slice (some ⟨g, 0, none⟩) R.nodes.length cap0] 29)).heap.size = w.heap.size + 1 := World.size_alloc _ _
    obtain ⟨W0, hW0⟩ : ∃ W0, w.alloc (.cells #[.slice (some ⟨g, 0, none⟩) R.nodes.length cap0] 29) = W0 := ⟨_, rfl⟩
    rw [hW0] at hb1 HF hbox hz1
    have hS' := hS.root hroot.2.2
    have HW0 := hide hW0; have Hb1 := hide hb1; have Hbox := hide hbox; have Hh := hide h; have Ha := hide ha; have Hkn := hide hkn; have Hi := hide hi; have IH := hide ih; have Hl := hide hl; have Hag := hide hag; have Hvg := hide hvg; have Hz1 := hide hz1
    clear hW0 hb1 hbox h ha hkn hi ih hag hvg hz1 hS
    obtain ⟨r, hr⟩ : ∃ r, c x = r := ⟨_, rfl⟩
    rw [hr] at HF hroot hS'
    have HS := hide hS'
    have hrn := hroot.1
    have Hroot := hide hroot
    have hll : l.length ≤ 1000000 := by omega
    have hrl : r < l.length := by omega
    clear hr hroot hl hS'
    go_enter Try.func40, Try.ntmps40
    go_wp2_with fail
    rw [HW0.out]
    refine HF.out.mono ?_
    rintro e W1 ⟨rfl, hb2⟩
    have hz1 := Hz1.out
    have hz2 := hb2.size
    have Hb2 := hide hb2
    have Hbw := hide (Hb1.out.trans (hb2.mono (by omega)))
    have Harr := hide (Ha.out.keep (Hbw.out.block gs hgsl))
    have c1 := Harr.out.cell r hrl
    have hgs1 : gs < W1.heap.size := by omega
    clear hb2 hz1 hz2
    by_cases h0 : 0 < par l r
    · obtain ⟨T0, hT0, e0⟩ := Hkn.out r h0
      have e1 := hT0.unique HS.out
      subst e1
      rw [e0] at c1
      have hpos : 0 < capped T0.cnt := by omega
      have k1 : decide ((0 : Int) < (capped T0.cnt : Int)) = true := by simp; omega
      have k2 : decide (0 < capped T0.cnt) = true := by simp; omega
      clear h0 e0 hT0
      go_wp2
      go_ret
      exact ⟨rfl, Only.of_below Hbw.out _, l, Hl.out, Harr.out, Hkn.out⟩
    · have hp0 : par l r = 0 := by omega
      rw [hp0] at c1
      clear h0 hp0
      obtain ⟨P, ax, hP, hax, -⟩ := Hh.out.node hrn rfl
      have HP := hide hP; have Hax := hide hax
      have hPf := Hh.out.few _ _ hP
      obtain ⟨A, hA, hcA⟩ := HS.out.one Hi.out.wf (p := P) (by rw [Hroot.out.2.2]; exact hP)
      have hAk : A.cnt ≤ k := by omega
      have HcA := hide hcA
      have hst1 := Hh.out.later Hbw.out
      have hbox1 := (Hb2.out.block w.heap.size (by have := Hz1.out; omega)).trans Hbox.out
      have hw1 : w.heap.size < W1.heap.size := (Array.getElem?_eq_some_iff.1 hbox1).1
      have Hst1 := hide hst1; have Hbox1 := hide hbox1
      have HR1 : Hid (SzRel W1 R c gs P.args A 1 0 l W1) := hide ⟨Only.refl _ _, Hl.out, Harr.out, Hkn.out, .nil, A, rfl, .nil, by simpa using hA, rfl⟩
      clear hP hax hA hcA hst1 hbox1
      go_wp2
      go_loopw [7, 8] (fun vk vi wr => ∃ (kk i : Nat) (li : List Nat), vk = .int .i64 kk ∧ vi = .int .i64 i ∧ i ≤ P.args.length ∧ kk ≤ 301 ∧ SzRel W1 R c gs P.args A kk i li wr) (fun _ vi _ => P.args.length - (intOf vi).toNat)
      case atStart => exact ⟨1, 0, l, rfl, rfl, by omega, by omega, HR1.out⟩
      case round =>
        obtain ⟨kk, i, li, rfl, rfl, hi, hkk, Rr⟩ := hrel
        have hst := Hst1.out.only Rr.only (fun b hb e => Hvg.out (by rw [hb, e])) (fun i a ha z hz e => Hag.out i a ha z hz e)
        have hwgs : w.heap.size ≠ gs := by omega
        obtain ⟨s0, t0⟩ := one_cell ((Rr.only.block _ hw1 hwgs).trans Hbox1.out)
        obtain ⟨P', ax', hP', hax', n0, n1, n2, n3⟩ := hst.node hrn rfl
        obtain rfl : P = P' := by have := HP.out; rw [this] at hP'; injection hP'
        obtain rfl : ax = ax' := by have := Hax.out; rw [this] at hax'; injection hax'
        have HRr := hide Rr; have Hst := hide hst
        clear hP' hax' Rr hst HR1 c1
        by_cases hlt : i < P.args.length
        · obtain ⟨b1, o1, hb1, -, e1⟩ := (Hst.out.args r P ax HP.out Hax.out).1.at_ i (by simpa [cast] using hlt)
          simp only [cast, List.getElem_map] at e1
          obtain ⟨y, hy⟩ : ∃ y, P.args[i] = y := ⟨_, rfl⟩
          rw [hy] at e1
          have hyi : P.args[i]? = some y := by rw [List.getElem?_eq_getElem hlt, hy]
          have hyn : y < R.nodes.length := Hi.out.wf.arg_lt HP.out hyi
          have hbg : b1 ≠ gs := Hag.out r ax Hax.out _ hb1
          obtain ⟨Ai, Ri, hsp, hs1, hs2, hkkA⟩ := HRr.out.parts
          rw [List.drop_eq_getElem_cons hlt, hy, show y :: P.args.drop (i + 1) = [y] ++ P.args.drop (i + 1) from rfl] at hs2
          obtain ⟨B, R', hRR, hsB, hsR⟩ := hs2.split
          have hBk : B.cnt ≤ k := by
            have : A.cnt = Ai.cnt + (B.cnt + R'.cnt) := by rw [hsp, hRR, Fo.cnt_app, Fo.cnt_app]
            omega
          have HC := hide (fun W (hW : Below wr.heap.size wr W) => IH.out y B li W hBk hyn HRr.out.len hsB (Hst.out.later hW) (HRr.out.arr.keep (hW.block gs HRr.out.arr.lt)) HRr.out.known)
          have hlil : li.length = l.length := by rw [HRr.out.len, Hl.out]
          simp only [hlil] at HC
          have Hsum := hide (capped_add (1 + Ai.cnt) B.cnt (by omega))
          rw [← hkkA] at Hsum
          have hcB := capped_le B.cnt
          have Hparts : Hid (∃ Ai' Ri', A = Ai'.app Ri' ∧ Stands R.nodes c idF (P.args.take (i + 1)) Ai' ∧ Stands R.nodes c idF (P.args.drop (i + 1)) Ri' ∧ capped (1 + Ai'.cnt) = capped (1 + Ai.cnt + B.cnt)) := hide ⟨Ai.app B, R', by rw [hsp, hRR, Fo.app_assoc], by rw [List.take_succ_eq_append_getElem hlt, hy]; exact hs1.app hsB, hsR, by rw [Fo.cnt_app, Nat.add_assoc]⟩
          obtain ⟨sB, hsBe⟩ : ∃ s, capped B.cnt = s := ⟨_, rfl⟩
          rw [hsBe] at Hsum hcB
          have HsB := hide hsBe
          rw [hb1] at n2
          have hgg : g ≠ gs := by have := Hvg.out; intro e; exact this (by rw [e]; rfl)
          have lg : g < wr.heap.size := Hst.out.lt g rfl
          have lw : w.heap.size < wr.heap.size := by have := HRr.out.only.size; omega
          have lb : b1 < wr.heap.size := Hst.out.adlt r ax Hax.out _ hb1
          have j0 : IntKind.i64.wrap ((kk : Int) + (sB : Int)) = (kk : Int) + (sB : Int) := IntWalk.i64_in _ (by omega)
          clear hb1 hy hyi n0 n1 n3 hlil hsp hs1 hs2 hRR hsB hsR hkkA hsBe
          go_upto_region 8 with fail
          go_region_held3 (fun w' => w'.cell? ⟨w.heap.size, 0, none⟩ = some (.slice (some ⟨g, 0, none⟩) R.nodes.length cap0) ∧ w'.cell? ⟨g, r * 4 + 2, none⟩ = some (.slice (some ⟨b1, o1, none⟩) P.args.length ax.2) ∧ w'.cell? ⟨b1, o1 + i, none⟩ = some (.int .i64 (y : Int))) (go_keep)
            (first | (go_at_call 40; refine (HC.out _ (by first | exact Below.refl _ _ | exact (Below.refl _ _).drew)).mono ?_; rintro e w' ⟨he, ho', hl'⟩; rw [HsB.out] at he; subst he; have r0 := (ho'.cell (p := ⟨w.heap.size, 0, none⟩) lw hwgs).trans s0; have r1 := (ho'.cell (p := ⟨g, r * 4 + 2, none⟩) lg hgg).trans n2; have r2 := (ho'.cell (p := ⟨b1, o1 + i, none⟩) lb hbg).trans e1; have Hl' := hide hl'; clear hl'))
          have Ho' : Hid (Only (fun b => b = gs) W1 w') := hide (HRr.out.only.trans ((Only.refl _ _).drew.trans ho'))
          rename_i hHeld
          clear hHeld ho' s0 t0 n2 e1 j0 r0 r1 r2
          by_cases hbig : 301 < kk + sB
          · have kb : decide ((301 : Int) < (kk : Int) + (sB : Int)) = true := by simp; omega
            go_wp2
            go_roundw
            case measure => simp [intOf]; omega
            case rel =>
              obtain ⟨l', h1, h2, h3⟩ := Hl'.out
              obtain ⟨Ai', Ri', p1, p2, p3, p4⟩ := Hparts.out
              exact ⟨301, i + 1, l', rfl, by go_num, by omega, by omega, ⟨Ho'.out, h1, h2, h3, Ai', Ri', p1, p2, p3, by rw [p4, Hsum.out, if_pos hbig]⟩⟩
          · have kb : decide ((301 : Int) < (kk : Int) + (sB : Int)) = false := by simp; omega
            go_wp2
            go_roundw
            case measure => simp [intOf]; omega
            case rel =>
              obtain ⟨l', h1, h2, h3⟩ := Hl'.out
              obtain ⟨Ai', Ri', p1, p2, p3, p4⟩ := Hparts.out
              exact ⟨kk + sB, i + 1, l', by go_num, by go_num, by omega, by omega, ⟨Ho'.out, h1, h2, h3, Ai', Ri', p1, p2, p3, by rw [p4, Hsum.out, if_neg hbig]⟩⟩
        · obtain rfl : i = P.args.length := by omega
          obtain ⟨Ai, Ri, hsp, hs1, hs2, hkkA⟩ := HRr.out.parts
          rw [List.drop_length] at hs2
          cases hs2
          rw [Fo.app_nil] at hsp
          subst hsp
          have HK : Hid (kk = capped T.cnt) := hide (by rw [hkkA, HcA.out])
          have q1 := HRr.out.arr.cell r (by rw [HRr.out.len]; exact hrn)
          have q2 := HRr.out.arr.free r
          have lg2 : gs < wr.heap.size := HRr.out.arr.lt
          clear hs1 hkkA
          go_wp2
          go_ret
          refine ⟨ret_int (by rw [HK.out]), ((Only.of_below Hbw.out _).trans HRr.out.only).setCell (.inl rfl) _, li.set r kk, by rw [List.length_set]; exact HRr.out.len, HRr.out.arr.set r kk, ?_⟩
          intro m hm0
          rw [par_set _ _ _ _ (by rw [HRr.out.len]; exact hrn)] at hm0 ⊢
          by_cases e : m = r
          · subst e
            rw [if_pos rfl]
            exact ⟨T, HS.out, HK.out⟩
          · rw [if_neg e] at hm0 ⊢
            exact HRr.out.known m hm0
theorem knownOk_start (N : List Nd) (c : Nat → Nat) (n : Nat) : KnownOk N c (List.replicate n 0) := fun m hm => by rw [par_rep] at hm; omega
set_option maxRecDepth 100000 in
set_option maxHeartbeats 2000000 in
theorem rSize_yes {w : World} {v : Value} {ad : List (Option Addr × Nat)} {R : RS} {c d : Nat → Nat} (h : RSt w v ad R) (hi : RInv R c d) (x : Nat) (hx : x < R.nodes.length) (T : Fo) (hT : Stands R.nodes c idF [x] T) :
    Calls Try.prog 14 #[.agg #[v], .int .i64 (x : Int)] w fun e w' => e = .returned (.int .i64 (capped T.cnt : Int)) ∧ Below w.heap.size w w' := by
  obtain ⟨g, cap0, hv0, hcap0⟩ := own_pos h.own (by omega)
  subst hv0
  have hm := h.many
  have hb1 : Below w.heap.size w (w.alloc (.cells #[.slice (some ⟨g, 0, none⟩) R.nodes.length cap0] 29)) := (Below.refl _ _).alloc (Nat.le_refl _) _
  have hbox := heap_alloc_new w (.cells #[.slice (some ⟨g, 0, none⟩) R.nodes.length cap0] 29)
  obtain ⟨W0, hW0⟩ : ∃ W0, w.alloc (.cells #[.slice (some ⟨g, 0, none⟩) R.nodes.length cap0] 29) = W0 := ⟨_, rfl⟩
  rw [hW0] at hb1 hbox
  have HIs := hide (ris_any (h.later hb1) (x : Int))
  rw [show inB R.nodes.length (x : Int) = true by simp [inB]; omega] at HIs
  have HW0 := hide hW0; have Hb1 := hide hb1; have Hbox := hide hbox; have Hh := hide h; have Hi := hide hi; have HT := hide hT
  clear hW0 hb1 hbox h hi hT
  go_enter Try.func14, Try.ntmps14
  go_wp2_with fail
  rw [HW0.out]
  refine HIs.out.mono ?_
  rintro e W4 ⟨rfl, hb2⟩
  have hl0 : w.heap.size < W0.heap.size := (Array.getElem?_eq_some_iff.1 Hbox.out).1
  have hbox4 := (hb2.block _ hl0).trans Hbox.out
  have hl4 : w.heap.size < W4.heap.size := (Array.getElem?_eq_some_iff.1 hbox4).1
  have Hbw := hide (Hb1.out.trans (hb2.mono (by omega)))
  have Hst4 := hide (Hh.out.later Hbw.out)
  obtain ⟨s0, t0⟩ := one_cell hbox4
  clear hb2 hbox4
  go_upto_region 3 with fail
  have hms := make_ints R.nodes.length hm
  have hb5 : Below W4.heap.size W4 ((W4.alloc (.cells (zeroRow R.nodes.length) 3)).drew) := ((Below.refl _ _).alloc (Nat.le_refl _) _).drew
  have HRd := hide (rsize_any Hi.out W4.heap.size (fun e => by have := Hst4.out.lt _ e; omega) (fun i a ha z hz' e => by have := Hst4.out.adlt i a ha z hz'; omega) _ x T (List.replicate R.nodes.length 0) ((W4.alloc (.cells (zeroRow R.nodes.length) 3)).drew) (Nat.le_refl _) hx (by simp) HT.out (Hst4.out.later hb5) ((Arr.made W4 _ hm).keep rfl) (knownOk_start _ _ _))
  rw [List.length_replicate] at HRd
  have s5 := (hb5.cell (p := ⟨w.heap.size, 0, none⟩) hl4).trans s0
  have hl5 : w.heap.size < ((W4.alloc (.cells (zeroRow R.nodes.length) 3)).drew).heap.size := Nat.lt_of_lt_of_le hl4 hb5.size
  have hne5 : w.heap.size ≠ W4.heap.size := by omega
  have Hb5 := hide hb5
  clear hb5
  go_region_held3 (fun w' => w'.cell? ⟨w.heap.size, 0, none⟩ = some (.slice (some ⟨g, 0, none⟩) R.nodes.length cap0)) (go_keep)
    (first | (go_at_call 40; refine HRd.out.mono ?_; rintro e w' ⟨rfl, ho', hl'⟩; have r0 := (ho'.cell (p := ⟨w.heap.size, 0, none⟩) hl5 hne5).trans s5; clear hl'))
  have hb6 : Below W4.heap.size W4 w' := Only.below_trans Hb5.out ho' (fun k _ e => by omega) Hb5.out.size
  have Hb6 := hide (Hbw.out.trans (hb6.mono (by omega)))
  rename_i hHeld
  clear hHeld s5 s0 t0 hms ho' hb6 hl5
  go_wp2
  go_ret
  exact ⟨rfl, Hb6.out⟩
set_option maxHeartbeats 1000000 in
theorem rSize_no {w : World} {v : Value} {ad : List (Option Addr × Nat)} {R : RS} (h : RSt w v ad R) (x : Int) (hx : inB R.nodes.length x = false) :
    Calls Try.prog 14 #[.agg #[v], .int .i64 x] w fun e w' => e = .returned (.int .i64 0) ∧ Below w.heap.size w w' := by
  obtain ⟨A0, cap0, hv0, _, _⟩ := own_len h.own
  subst hv0
  have hb1 : Below w.heap.size w (w.alloc (.cells #[.slice A0 R.nodes.length cap0] 29)) := (Below.refl _ _).alloc (Nat.le_refl _) _
  have HIs := hide (ris_any (h.later hb1) x)
  rw [hx] at HIs
  have Hb1 := hide hb1
  clear h hb1 hx
  go_enter Try.func14, Try.ntmps14
  go_wp2_with fail
  refine HIs.out.mono ?_
  rintro e W4 ⟨rfl, hb2⟩
  have Hb2 := hide (Hb1.out.trans (hb2.mono (by simp)))
  clear hb2
  go_wp2
  go_ret
  exact ⟨rfl, Hb2.out⟩
end Go.Proofs.Ytafpbdmggnfdnaa
