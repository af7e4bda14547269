/- The program's store: Size. -/
import Derived.Test.YtafpbdmggnfdnaaStoreUnify
import Derived.Test.YtafpbdmggnfdnaaPlainTree
namespace Go.Proofs.Ytafpbdmggnfdnaa
open Go.RowKit
set_option linter.unusedVariables false

def capped (n : Nat) : Nat := if n ≤ 300 then n else 301
theorem Ok.forms {S : PS} {c d : Nat → Nat} (h : Ok S c d) (i : Nat) (hi : i < S.nodes.length) : Form S.nodes c (c i) (par S.forms (c i)) := h.inv.forms (c i) (h.inv.root i hi).1 (h.inv.root i hi).2.2
theorem Ok.roots {S : PS} {c d : Nat → Nat} (h : Ok S c d) (i : Nat) (hi : i < S.nodes.length) : c i < S.nodes.length ∧ c (c i) = c i := ⟨(h.inv.root i hi).1, (h.inv.root i hi).2.2⟩
theorem Ok.stands {S : PS} {c d : Nat → Nat} (h : Ok S c d) (is : List Nat) (hi : ∀ i ∈ is, i < S.nodes.length) : ∃ T, Stands S.nodes c (par S.forms) is T := Stands.exists h.inv.wf (fun i hi => (h.roots i hi).1) h.forms h.acyc is hi
/-- A node's tree: its form's head over its form's arguments. -/
theorem Stands.one {N : List Nd} {c F : Nat → Nat} (hw : Wf N) {x : Nat} {B : Fo} {p : Nd} (h : Stands N c F [x] B) (hp : N[F (c x)]? = some p) : ∃ A, Stands N c F p.args A ∧ B.cnt = 1 + A.cnt := by
  cases h with
  | var hp' hk hr =>
    rw [hp] at hp'; injection hp' with e; subst e
    cases hr
    rw [(hw _ _ hp).2 hk]
    exact ⟨.nil, .nil, rfl⟩
  | con hp' hk ha hr =>
    rw [hp] at hp'; injection hp' with e; subst e
    cases hr
    exact ⟨_, ha, by simp [Fo.cnt]⟩
theorem nats_append (a b : List Nat) : nats (a ++ b) = nats a ++ nats b := by simp [nats]
theorem nats_length (a : List Nat) : (nats a).length = a.length := by simp [nats]
theorem nats_one (l : List Nat) : ∀ u ∈ nats l, u.oneCell' = true := by
  intro u hu
  obtain ⟨n, _, rfl⟩ := List.mem_map.1 hu
  rfl
theorem nats_cells {w : World} {a : Addr} {xs : List Nat} (h : Nats w (some a) xs) : ∀ (j : Nat) (u : Value), (nats xs)[j]? = some u → w.cell? (a.add j) = some u := by
  intro j u hu
  unfold nats at hu
  rw [List.getElem?_map] at hu
  obtain ⟨x, hx, hxu⟩ := Option.map_eq_some_iff.1 hu
  have hne : cast xs ≠ [] := by
    intro e
    unfold cast at e
    have : xs = [] := by simpa using e
    rw [this] at hx; simp at hx
  obtain ⟨b, off, e, hb, hcc⟩ := h hne
  obtain rfl : a = ⟨b, off, none⟩ := by injection e
  rw [addr_add', ← hxu]
  exact hcc j x (by unfold cast; rw [List.getElem?_map, hx]; rfl)

/-- Nothing is appended: the row stays as it is, whatever the capacity of the nil slice. -/
theorem run_append_nothing {P : Program} (w : World) {base : Nat} {t ty e : TypeId} {i : TypeInfo} {size : Nat} (ht : P.underlying t = some (.slice e)) (hi : P.info? e = some i) {v : Value} {n : Nat} {xs : List Value} (hown : w.ownsRow base e size v n xs) (cap : Nat) : (Builtin.append_ #[t, t] ty #[v, .slice none 0 cap]).run P w = .ok v w := by
  rcases hown.2 with ⟨rfl, rfl⟩ | ⟨g, k, cur, rfl, _, _, hle, _⟩
  · simp [Builtin.append_, run_underlying ht, sizeOf, typeInfo, hi, Builtin.lenOf, Builtin.firstCells]
  · simp [Builtin.append_, run_underlying ht, sizeOf, typeInfo, hi, Builtin.lenOf, Builtin.firstCells, hle, storeCells]
theorem wpList_append_nothing {P : Program} {w : World} {ops : Array Oper} {rest : List Oper} {o : Oper} {a : Act} {Q : Exit → Act → World → Prop} (hgd : o.guard = none) (s x : Operand) (t : TypeId) (ho : o.op = .call { callee := .builtin .append, args := #[s, x], argTypes := #[t, t] })
    (base : Nat) (e : TypeId) (i : TypeInfo) (size : Nat) (ht : P.underlying t = some (.slice e)) (hi : P.info? e = some i) (v : Value) (n : Nat) (xs : List Value) (hs : a.eval s = v) (hown : w.ownsRow base e size v n xs) (cap : Nat) (hx : a.eval x = .slice none 0 cap)
    (h : wpList P ops Q rest (a.put o.dst v) w) : wpList P ops Q (o :: rest) a w := by
  refine wpList_plain hgd fun K hK => ?_
  have hrun := run_append_nothing (P := P) w (ty := o.type) ht hi hown cap
  unfold Oper.wp
  simp [execOp, ho, resolve, invoke, builtin, hs, hx, hrun, Result.andThen]
  exact hK _ _ h

structure SRel (w : World) (S : PS) (c : Nat → Nat) (total : Nat) (vw : Value) (k : Nat) (todo : List Nat) (wr : World) : Prop where
  below : Below w.heap.size w wr
  own : wr.ownsRow w.heap.size 3 1 vw todo.length (nats todo)
  tree : ∃ U, Stands S.nodes c (par S.forms) todo U ∧ k + U.cnt = total
  lt : ∀ i ∈ todo, i < S.nodes.length
  few : k + todo.length ≤ 300
set_option maxRecDepth 100000 in
set_option maxHeartbeats 4000000 in
theorem size_any {w : World} {base : Nat} {L : Lay} {S : PS} {c d : Nat → Nat} (h : St w base L S) (hi : Ok S c d) (i : Nat) (hin : i < S.nodes.length) (T : Fo) (hT : Stands S.nodes c (par S.forms) [i] T) :
    Calls Try.prog 13 #[.pointer (some ⟨L.g, 0, none⟩), .int .i64 (i : Int)] w fun e w' => e = .returned (.int .i64 (capped T.cnt : Int)) ∧ Below w.heap.size w w' := by
  obtain ⟨i1, ki, kz0, kz1, kz2⟩ := info_parts intInfo
  have Ki := hide ki; have Kz0 := hide kz0; have Kz1 := hide kz1; have Kz2 := hide kz2
  clear ki kz0 kz1 kz2
  have hb1 : Below w.heap.size w (w.alloc (.cells #[.int .i64 (i : Int)] 3)) := (Below.refl _ _).alloc (Nat.le_refl _) _
  have hb2 : Below w.heap.size w ((w.alloc (.cells #[.int .i64 (i : Int)] 3)).alloc (.cells #[.int .i64 (i : Int)] 3)) := hb1.alloc (by simp) _
  have HK := hide (known_any (h.later hb1) (some ⟨w.heap.size, 0, none⟩) 1 [(i : Int)] (ints_one w i _) (by simp))
  rw [show allIn S.nodes.length [(i : Int)] = true by simp [allIn]; omega] at HK
  have HR : Hid (SRel w S c T.cnt (.slice (some ⟨w.heap.size + 1, 0, none⟩) 1 1) 0 [i] ((w.alloc (.cells #[.int .i64 (i : Int)] 3)).alloc (.cells #[.int .i64 (i : Int)] 3))) := by
    refine hide ⟨hb2, ?_, ⟨T, hT, by omega⟩, by simpa using hin, by simp⟩
    have := World.ownsRow_lit (base := w.heap.size) (e := 3) (size := 1) (w.alloc (.cells #[.int .i64 (i : Int)] 3)) #[.int .i64 (i : Int)] 1 (by simp) (by simp [maxLen]) rfl
    rw [World.size_alloc] at this
    exact this
  have Hi := hide hi
  have hm := h.many
  have H0 := hide h
  clear h hi hb1 hb2 hT
  go_enter Try.func13, Try.ntmps13
  go_wp2_with fail
  refine HK.out.mono ?_
  rintro e w1 ⟨rfl, rfl⟩
  go_wp2
  go_loopw [5, 6] (fun vk vw wr => ∃ (k : Nat) (todo : List Nat), vk = .int .i64 k ∧ SRel w S c T.cnt vw k todo wr) (fun vk _ _ => 301 - (intOf vk).toNat)
  case atStart => exact ⟨0, [i], rfl, HR.out⟩
  case round =>
    obtain ⟨k, todo, rfl, R⟩ := hrel
    clear HR
    rcases List.eq_nil_or_concat todo with rfl | ⟨todo, x, rfl⟩
    · obtain ⟨A, cap, rfl, -, -⟩ := own_len R.own
      go_wp2
      go_ret
      obtain ⟨U, hU, hk⟩ := R.tree
      cases hU
      have hf := R.few
      simp only [Fo.cnt, List.length_nil] at hk hf
      exact ⟨ret_int (by unfold capped; rw [if_pos (by omega)]; omega), R.below⟩
    · simp only [List.concat_eq_append] at R
      have hlen : (todo ++ [x]).length = todo.length + 1 := by simp
      have hown := R.own
      rw [hlen] at hown
      obtain ⟨g, cap, rfl, hcap⟩ := own_pos hown (by omega)
      have t0 := own_nat hown rfl todo.length (by simp)
      rw [List.getElem_concat_length rfl] at t0
      have hpop := hide (own_pop hown)
      rw [nats_snoc, Nat.mul_one, List.take_left' (nats_length todo)] at hpop
      have hgl := (hown.lt g rfl).2
      have hfew := R.few
      rw [hlen] at hfew
      have hxn : x < S.nodes.length := R.lt x (by simp)
      have Fx := Hi.out.forms x hxn
      obtain ⟨P, hP⟩ : ∃ P, S.nodes[par S.forms (c x)]? = some P := ⟨_, List.getElem?_eq_getElem Fx.lt⟩
      have hPl := H0.out.few _ _ hP
      obtain ⟨U, hU, hkU⟩ := R.tree
      obtain ⟨A, B, rfl, hA, hB⟩ := hU.split
      obtain ⟨A', hA', hcnt⟩ := hB.one Hi.out.inv.wf hP
      rw [Fo.cnt_app, hcnt] at hkU
      have hst := H0.out.later R.below
      have HFm := hide (form_any hst Hi.out.inv.forest x hxn P hP)
      have HR := hide R; have HP := hide hP; have HA := hide hA; have HA' := hide hA'; have HkU := hide hkU
      have hl1 := hA.len; have hl2 := hA'.len; have hl3 := A.len_le; have hl4 := A'.len_le
      clear R hP hU hB hown hst Fx hA hA' hkU hcnt
      have fl := nd_args
      have hsl2 := fun W => run_slice_h (P := Try.prog) W 30 (some ⟨g, 0, none⟩) (todo.length + 1) cap Try.underlying30 .i64 ((todo.length : Int)) (by omega) (by omega)
      go_wp2_with fail
      refine HFm.out.mono ?_
      rintro e W1 ⟨ax, hax, rfl, hb1⟩
      have Hbw := hide (HR.out.below.trans (hb1.mono HR.out.below.size))
      have Hpop1 := hide (own_keep hpop.out (fun b hb => hb1.block b (hpop.out.lt b hb).2))
      have Hax := hide hax
      have Hst1 := hide (H0.out.later Hbw.out)
      clear hb1 hax HFm hpop t0
      by_cases hbig : 300 < k + 1 + todo.length + P.args.length
      · have hb41 : decide ((300 : Int) < (k : Int) + 1 + (todo.length : Int) + (P.args.length : Int)) = true := by simp; omega
        go_wp2
        go_ret
        have := HkU.out
        exact ⟨ret_int (by unfold capped; rw [if_neg (by omega)]; rfl), Hbw.out⟩
      · have hb41 : decide ((300 : Int) < (k : Int) + 1 + (todo.length : Int) + (P.args.length : Int)) = false := by simp; omega
        have hargs := (Hst1.out.args _ P ax HP.out Hax.out).1
        have hlt' : ∀ y ∈ todo ++ P.args, y < S.nodes.length := by
          intro y hy
          rcases List.mem_append.1 hy with hy | hy
          · exact HR.out.lt y (List.mem_append_left _ hy)
          · obtain ⟨j, hj⟩ := List.mem_iff_getElem?.1 hy
            exact Hi.out.inv.wf.arg_lt HP.out hj
        have Hlt' := hide hlt'
        have Htree : Hid (∃ U, Stands S.nodes c (par S.forms) (todo ++ P.args) U ∧ k + 1 + U.cnt = T.cnt) := hide ⟨A.app A', HA.out.app HA'.out, by rw [Fo.cnt_app]; have := HkU.out; omega⟩
        have hz : w.heap.size ≤ W1.heap.size := Hbw.out.size
        obtain ⟨Ad, cx⟩ := ax
        simp only at hargs ⊢
        rcases Ad with _ | ad
        · have hnil : P.args = [] := by
            rcases hq : P.args with _ | ⟨y, l⟩
            · rfl
            · rw [hq] at hargs
              obtain ⟨_, _, e, _⟩ := hargs (by simp [cast])
              cases e
          have Hnil := hide hnil
          clear hargs hlt'
          rw [hnil] at hbig hb41 ⊢
          clear hnil
          go_wp2_with (at_builtin; refine wpList_append_nothing rfl (.tmp 42) (.tmp 43) 30 rfl w.heap.size 3 i1 1 Try.underlying30 Ki.out (.slice (some ⟨g, 0, none⟩) todo.length cap) todo.length (nats todo) rfl Hpop1.out cx rfl ?_)
          go_roundw
          case measure => simp [intOf]; omega
          case rel =>
            have ht := Htree.out; have hl := Hlt'.out
            rw [Hnil.out, List.append_nil] at ht hl
            exact ⟨k + 1, todo, by go_num, Hbw.out, Hpop1.out, ht, hl, by omega⟩
        · have HC := hide (nats_cells hargs)
          have H1 := hide (nats_one P.args)
          clear hargs hlt'
          go_wp2_with (at_builtin; refine wpList_append_own _ rfl (.tmp 42) (.tmp 43) 30 rfl w.heap.size 3 i1 (.int .i64 0) 1 8 Try.underlying30 Ki.out Kz0.out Kz1.out Kz2.out rfl (by decide) (.slice (some ⟨g, 0, none⟩) todo.length cap) todo.length (nats todo) rfl Hpop1.out ad P.args.length cx (nats P.args) rfl (by rw [nats_length]; omega) HC.out H1.out (by simp only [maxLen]; omega) (by omega) hz ?_; intro v2 W2 own2 grow2 nil2; clear nil2)
          go_roundw
          case measure => simp [intOf]; omega
          case rel =>
            refine ⟨k + 1, todo ++ P.args, by go_num, Hbw.out.grown grow2 hz (fun j e1 => (Hpop1.out.lt j e1).1), ?_, Htree.out, Hlt'.out, by rw [List.length_append]; omega⟩
            rw [nats_append, List.length_append]
            exact own2

set_option maxHeartbeats 1000000 in
theorem size_no {w : World} {base : Nat} {L : Lay} {S : PS} (h : St w base L S) (i : Int) (hk : allIn S.nodes.length [i] = false) :
    Calls Try.prog 13 #[.pointer (some ⟨L.g, 0, none⟩), .int .i64 i] w fun e w' => e = .returned (.int .i64 0) ∧ Below w.heap.size w w' := by
  have hb1 : Below w.heap.size w (w.alloc (.cells #[.int .i64 i] 3)) := (Below.refl _ _).alloc (Nat.le_refl _) _
  have HK := hide (known_any (h.later hb1) (some ⟨w.heap.size, 0, none⟩) 1 [i] (ints_one w i _) (by simp))
  rw [hk] at HK
  clear hk hb1
  go_enter Try.func13, Try.ntmps13
  go_wp2_with fail
  refine HK.out.mono ?_
  rintro e w1 ⟨rfl, rfl⟩
  go_wp2
  go_ret
  exact ⟨rfl, (Below.refl _ _).alloc (Nat.le_refl _) _⟩
end Go.Proofs.Ytafpbdmggnfdnaa
