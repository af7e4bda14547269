/- A map from int to int of one's own: which keys it has, what stands there, how many they are. Plain and inside a fence. -/
import Derived.Test.YtafpbdmggnfdnaaMapIn
namespace Go.Proofs.Ytafpbdmggnfdnaa
open Go.RowKit Go.Shelf Go.Maps
set_option linter.unusedVariables false

/-- Block b is a map of m entries (at most n were put); at a number below 2 ^ 62 it has f. -/
def MapOn (w : World) (b n m : Nat) (f : Nat → Option Nat) : Prop :=
  ∃ D : DataW Unit, w.ownsMap Try.prog 3 (plainElem Try.prog 3) b n D ∧ size D = m ∧ ∀ k : Nat, k < 4611686018427387904 → has D (.int .i64 (k : Int)) = (f k).isSome ∧ D.atKey (.int .i64 (k : Int)) (.lit (.int .i64 0)) = .lit (.int .i64 (((f k).getD 0 : Nat) : Int))
def updO (f : Nat → Option Nat) (k : Nat) (v : Option Nat) : Nat → Option Nat := fun i => if i = k then v else f i
theorem updO_same (f : Nat → Option Nat) (k : Nat) (v : Option Nat) : updO f k v k = v := by simp [updO]
theorem updO_other (f : Nat → Option Nat) (k : Nat) (v : Option Nat) (i : Nat) (h : i ≠ k) : updO f k v i = f i := by simp [updO, h]
theorem MapOn.is {w : World} {b n m : Nat} {f : Nat → Option Nat} (h : MapOn w b n m f) : MapIs w b n (fun k => (f k).getD 0) := by
  obtain ⟨D, h1, _, h3⟩ := h
  exact ⟨D, h1, fun k hk => (h3 k hk).2⟩
theorem MapOn.lt {w : World} {b n m : Nat} {f : Nat → Option Nat} (h : MapOn w b n m f) : b < w.heap.size := h.is.lt
theorem MapOn.obj {w : World} {b n m : Nat} {f : Nat → Option Nat} (h : MapOn w b n m f) : ∃ es k, w.heap[b]? = some (.map es k) := by
  obtain ⟨D, ⟨es, clock, hb, _⟩, _⟩ := h
  exact ⟨_, _, hb⟩
theorem MapOn.keep {w w' : World} {b n m : Nat} {f : Nat → Option Nat} (h : MapOn w b n m f) (hk : w'.heap[b]? = w.heap[b]?) : MapOn w' b n m f := by
  obtain ⟨D, ⟨es, clock, hb, h2⟩, h3⟩ := h
  exact ⟨D, ⟨es, clock, hk.trans hb, h2⟩, h3⟩
theorem MapOn.new (w : World) : MapOn (w.alloc (.map #[] 0)) w.heap.size 0 0 (fun _ => none) :=
  ⟨_, World.ownsMap_made _ _ _ _, rfl, fun k hk => ⟨rfl, rfl⟩⟩
theorem MapOn.le {w : World} {b n m : Nat} {f : Nat → Option Nat} (h : MapOn w b n m f) : m ≤ n := by
  obtain ⟨D, h1, h2, _⟩ := h
  have := h1.size_le; omega
theorem mapOn_put {w' : World} {b n m : Nat} {f : Nat → Option Nat} {D : DataW Unit} (hT : Tidy D) (h2 : size D = m) (h3 : ∀ k : Nat, k < 4611686018427387904 → has D (.int .i64 (k : Int)) = (f k).isSome ∧ D.atKey (.int .i64 (k : Int)) (.lit (.int .i64 0)) = .lit (.int .i64 (((f k).getD 0 : Nat) : Int)))
    (key val : Nat) (hk : key < 4611686018427387904) (hown' : w'.ownsMap Try.prog 3 (plainElem Try.prog 3) b n (D.put (.int .i64 (key : Int)) (.lit (.int .i64 (val : Int))))) : MapOn w' b n (if (f key).isSome then m else m + 1) (updO f key (some val)) := by
  refine ⟨_, hown', ?_, fun k hkk => ?_⟩
  · rw [size_put hT, h2, (h3 key hk).1]
  · by_cases e : k = key
    · subst e
      rw [updO_same]
      exact ⟨has_put_same hT.isMap (by simp [WideAt.IsKeyLit]) _, atKey_put_same hT.isMap (by simp [WideAt.IsKeyLit]) _ _⟩
    · have hne : (Lit.int .i64 (k : Int)) ≠ .int .i64 (key : Int) := by intro e'; injection e' with _ e'; exact e (by omega)
      rw [updO_other _ _ _ _ e]
      exact ⟨(has_put_other hne _).trans (h3 k hkk).1, (atKey_put_other hne _ _).trans (h3 k hkk).2⟩
theorem mapOn_del {w' : World} {b n m : Nat} {f : Nat → Option Nat} {D : DataW Unit} (hT : Tidy D) (h2 : size D = m) (h3 : ∀ k : Nat, k < 4611686018427387904 → has D (.int .i64 (k : Int)) = (f k).isSome ∧ D.atKey (.int .i64 (k : Int)) (.lit (.int .i64 0)) = .lit (.int .i64 (((f k).getD 0 : Nat) : Int)))
    (key : Nat) (hk : key < 4611686018427387904) (hown' : w'.ownsMap Try.prog 3 (plainElem Try.prog 3) b n (D.del (.int .i64 (key : Int)))) : MapOn w' b n (if (f key).isSome then m - 1 else m) (updO f key none) := by
  refine ⟨_, hown', ?_, fun k hkk => ?_⟩
  · have := size_del (k := .int .i64 (key : Int)) hT
    rw [(h3 key hk).1] at this
    split <;> simp_all <;> omega
  · by_cases e : k = key
    · subst e
      rw [updO_same]
      exact ⟨has_del_same, atKey_del_same _⟩
    · have hne : (Lit.int .i64 (k : Int)) ≠ .int .i64 (key : Int) := by intro e'; injection e' with _ e'; exact e (by omega)
      rw [updO_other _ _ _ _ e]
      exact ⟨(has_del_other hne).trans (h3 k hkk).1, (atKey_del_other hne _).trans (h3 k hkk).2⟩
section
variable {F : Fence} {nF : Nat} {w : World} {ops : Array Oper} {rest : List Oper} {o : Oper} {a : Act} {Q : Exit → Act → World → Prop}
theorem wpListIn_on_set (hg : o.guard = none) (m x v : Operand) (hop : o.op = Op.mapUpdate 76 m x v) (b n k : Nat) (f : Nat → Option Nat)
    (hm : a.eval m = .map (some b)) (h : MapOn w b n k f) (hn : n < 1000000000) (key val : Nat) (hx : a.eval x = .int .i64 (key : Int)) (hv : a.eval v = .int .i64 (val : Int)) (hk : key < 4611686018427387904) (hvl : val < 4611686018427387904)
    (hK : ∀ w', MapOn w' b (n + 1) (if (f key).isSome then k else k + 1) (updO f key (some val)) → w.grownBy w' (some b) → wpListIn F nF Try.prog ops Q rest (a.put o.dst undef) w') : wpListIn F nF Try.prog ops Q (o :: rest) a w := by
  obtain ⟨D, hown, h2, h3⟩ := h
  exact wpListIn_mapUpdate_own w hg m x v 76 hop 3 3 (int_keyed Try.underlying3) Try.underlying76 (plainElem Try.prog 3) b n D hm hown (by unfold maxLen; omega) _ _ (.int .i64 (key : Int)) hx hv (keyOf_int_mk Try.underlying3 (int_wf key hk)) (.lit (.int .i64 (val : Int))) [] (plainElem_int Try.underlying3 (int_wf val hvl)) (fun w' hown' hgrow => hK w' (mapOn_put (hown.tidy (int_keyed Try.underlying3)) h2 h3 key val hk hown') hgrow)
theorem wpList_on_set (hg : o.guard = none) (m x v : Operand) (hop : o.op = Op.mapUpdate 76 m x v) (b n k : Nat) (f : Nat → Option Nat)
    (hm : a.eval m = .map (some b)) (h : MapOn w b n k f) (hn : n < 1000000000) (key val : Nat) (hx : a.eval x = .int .i64 (key : Int)) (hv : a.eval v = .int .i64 (val : Int)) (hk : key < 4611686018427387904) (hvl : val < 4611686018427387904)
    (hK : ∀ w', MapOn w' b (n + 1) (if (f key).isSome then k else k + 1) (updO f key (some val)) → w.grownBy w' (some b) → wpList Try.prog ops Q rest (a.put o.dst undef) w') : wpList Try.prog ops Q (o :: rest) a w := by
  obtain ⟨D, hown, h2, h3⟩ := h
  exact wpList_mapUpdate_own w hg m x v 76 hop 3 3 (int_keyed Try.underlying3) Try.underlying76 (plainElem Try.prog 3) b n D hm hown (by unfold maxLen; omega) _ _ (.int .i64 (key : Int)) hx hv (keyOf_int_mk Try.underlying3 (int_wf key hk)) (.lit (.int .i64 (val : Int))) [] (plainElem_int Try.underlying3 (int_wf val hvl)) (fun w' hown' hgrow => hK w' (mapOn_put (hown.tidy (int_keyed Try.underlying3)) h2 h3 key val hk hown') hgrow)
theorem wpListIn_on_get (hg : o.guard = none) (m x : Operand) (hop : o.op = Op.lookup 76 m x false) (b n k : Nat) (f : Nat → Option Nat)
    (hm : a.eval m = .map (some b)) (h : MapOn w b n k f) (key : Nat) (hx : a.eval x = .int .i64 (key : Int)) (hk : key < 4611686018427387904)
    (hK : wpListIn F nF Try.prog ops Q rest (a.put o.dst (.int .i64 (((f key).getD 0 : Nat) : Int))) w) : wpListIn F nF Try.prog ops Q (o :: rest) a w :=
  wpListIn_map_get hg m x hop b n _ hm h.is key hx hk hK
theorem wpList_on_get (hg : o.guard = none) (m x : Operand) (hop : o.op = Op.lookup 76 m x false) (b n k : Nat) (f : Nat → Option Nat)
    (hm : a.eval m = .map (some b)) (h : MapOn w b n k f) (key : Nat) (hx : a.eval x = .int .i64 (key : Int)) (hk : key < 4611686018427387904)
    (hK : wpList Try.prog ops Q rest (a.put o.dst (.int .i64 (((f key).getD 0 : Nat) : Int))) w) : wpList Try.prog ops Q (o :: rest) a w :=
  wpList_map_get hg m x hop b n _ hm h.is key hx hk hK
theorem wpList_on_look (hg : o.guard = none) (m x : Operand) (hop : o.op = Op.lookup 76 m x true) (b n k : Nat) (f : Nat → Option Nat)
    (hm : a.eval m = .map (some b)) (h : MapOn w b n k f) (key : Nat) (hx : a.eval x = .int .i64 (key : Int)) (hk : key < 4611686018427387904)
    (hK : wpList Try.prog ops Q rest (a.put o.dst (.tuple #[.int .i64 (((f key).getD 0 : Nat) : Int), .bool (f key).isSome])) w) : wpList Try.prog ops Q (o :: rest) a w := by
  obtain ⟨D, hown, h2, h3⟩ := h
  refine wpList_lookup_own_ok_int w hg m x 76 hop 3 3 .i64 (int_keyed Try.underlying3) Try.underlying76 Try.underlying3 (zeroInt w) b n D hm hown _ (.int .i64 (key : Int)) hx (keyOf_int_mk Try.underlying3 (int_wf key hk)) (fun c hc _ => ?_)
  rw [(h3 key hk).2] at hc
  injection hc with hc
  injection hc with _ hc
  rw [← hc, (h3 key hk).1]; exact hK
theorem wpListIn_on_len (hg : o.guard = none) (m : Operand) (hop : o.op = Op.call { callee := Callee.builtin Builtin.len, args := #[m], argTypes := #[76] }) (b n k : Nat) (f : Nat → Option Nat)
    (hm : a.eval m = .map (some b)) (h : MapOn w b n k f) (hK : wpListIn F nF Try.prog ops Q rest (a.put o.dst (.int .i64 (k : Int))) w) : wpListIn F nF Try.prog ops Q (o :: rest) a w := by
  obtain ⟨D, hown, h2, h3⟩ := h
  refine wpListIn_plain hg fun K' hK' => ?_
  unfold Oper.wpIn
  refine ⟨by simp [Oper.about, hop, resolve, Target.leads, Sem.run_pure], ?_⟩
  rw [Oper.semAt_plain F _ _ (by rw [hop]; intro c hc'; cases hc')]
  simp [execOp, hop, resolve, invoke, builtin, hm, hown.len Try.underlying76 o.type, Result.andThen]
  rw [h2]
  exact hK' _ _ hK
theorem wpList_on_len (hg : o.guard = none) (m : Operand) (hop : o.op = Op.call { callee := Callee.builtin Builtin.len, args := #[m], argTypes := #[76] }) (b n k : Nat) (f : Nat → Option Nat)
    (hm : a.eval m = .map (some b)) (h : MapOn w b n k f) (hK : wpList Try.prog ops Q rest (a.put o.dst (.int .i64 (k : Int))) w) : wpList Try.prog ops Q (o :: rest) a w := by
  obtain ⟨D, hown, h2, h3⟩ := h
  exact wpList_len_own w hg m 76 hop 3 3 Try.underlying76 _ b n D hm hown (by rw [h2]; exact hK)
theorem wpListIn_on_delete (hg : o.guard = none) (m x : Operand) (hop : o.op = Op.call { callee := Callee.builtin Builtin.delete, args := #[m, x], argTypes := #[76, 3] }) (b n k : Nat) (f : Nat → Option Nat)
    (hm : a.eval m = .map (some b)) (h : MapOn w b n k f) (key : Nat) (hx : a.eval x = .int .i64 (key : Int)) (hk : key < 4611686018427387904)
    (hK : ∀ w', MapOn w' b n (if (f key).isSome then k - 1 else k) (updO f key none) → w.grownBy w' (some b) → wpListIn F nF Try.prog ops Q rest (a.put o.dst (.tuple #[])) w') : wpListIn F nF Try.prog ops Q (o :: rest) a w := by
  obtain ⟨D, hown, h2, h3⟩ := h
  exact wpListIn_delete_own w hg m x 76 3 hop 3 (int_keyed Try.underlying3) Try.underlying76 (plainElem Try.prog 3) b n D hm hown _ (.int .i64 (key : Int)) hx (keyOf_int_mk Try.underlying3 (int_wf key hk)) (fun w' hown' hturn => hK w' (mapOn_del (hown.tidy (int_keyed Try.underlying3)) h2 h3 key hk hown') hturn.grown)
end
end Go.Proofs.Ytafpbdmggnfdnaa
