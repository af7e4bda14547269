/- The contract of the reference's CopyTokens. -/
import Derived.Test.YtniofjeefphlmaaRefLex
import Derived.Laws.AppendOwnNone
namespace Go.Proofs.Ytniofjeefphlmaa
open Go.RowKit
set_option linter.unusedVariables false

theorem cellsOf_one (xs : List Tk) : ∀ u ∈ cellsOf xs, u.oneCell' = true := by
  intro u hu
  unfold cellsOf at hu
  obtain ⟨t, _, ht⟩ := List.mem_flatMap.1 hu
  simp [cell3] at ht
  rcases ht with rfl | rfl | rfl <;> rfl
theorem addr_add (b o j : Nat) : (⟨b, o, none⟩ : Addr).add j = ⟨b, o + j, none⟩ := by
  unfold Addr.add
  split
  · rename_i h; rw [h]; rfl
  · rfl

theorem toks_own {w : World} {base : Nat} {e : TypeId} {v : Value} {xs : List Tk} (h : w.ownsRow base e 3 v xs.length (cellsOf xs)) : ∃ A c, v = .slice A xs.length c ∧ Toks w w.heap.size A xs ∧ (A = none → c = 0) := by
  obtain ⟨A, c, hv, ha⟩ := Toks.of_own h
  refine ⟨A, c, hv, ha, fun hA => ?_⟩
  subst hA
  rcases h.2 with ⟨h1, _⟩ | ⟨g, cap, cur, h1, _⟩
  · rw [hv] at h1; injection h1
  · rw [hv] at h1; injection h1 with h1; cases h1
set_option maxHeartbeats 1000000 in
theorem copy_any (A : Option Addr) (c : Nat) (xs : List Tk) (B : Nat) (w : World) (ha : Toks w B A xs) (hB : B ≤ w.heap.size) (hc : A = none → c = 0) (hx : xs.length ≤ 1000000) :
    Calls Try.prog 25 #[.slice A xs.length c] w fun e w' => ∃ v, e = .returned v ∧ w'.ownsRow w.heap.size 28 3 v xs.length (cellsOf xs) ∧ v ≠ .slice none 0 0 ∧ Below w.heap.size w w' := by
  obtain ⟨i0, hi, hz0, hz1, hz2⟩ := info_parts tokInfo
  have Hi := hide hi; have Hz0 := hide hz0; have Hz1 := hide hz1; have Hz2 := hide hz2; clear hi hz0 hz1 hz2
  have hown0 : (w.alloc (.cells #[] 28)).ownsRow w.heap.size 28 3 (.slice (some ⟨w.heap.size, 0, none⟩) 0 0) 0 [] := ⟨by simp, .inr ⟨w.heap.size, 0, #[], rfl, Nat.le_refl _, heap_alloc_new w _, by simp, by simp [maxLen], by simp, by simp⟩⟩
  have Hown0 := hide hown0; clear hown0
  rcases A with _ | ad
  · obtain rfl := hc rfl
    have hxs : xs = [] := by
      rcases xs with _ | ⟨x, xs⟩
      · rfl
      · obtain ⟨b, o, e, _⟩ := ha (by simp); cases e
    subst hxs
    clear ha hc
    go_enter Try.func25, Try.ntmps25
    go_wp2_with (at_builtin; refine wpList_append_own_none rfl (.tmp 5) (.tmp 6) 24 rfl w.heap.size 28 i0 3 Try.underlying24 Hi.out _ 0 [] rfl Hown0.out rfl ?_)
    go_ret
    exact ⟨_, rfl, Hown0.out, by simp, (Below.refl _ _).alloc (Nat.le_refl _) _⟩
  · have hcells : ∀ j u, (cellsOf xs)[j]? = some u → (w.alloc (.cells #[] 28)).cell? (ad.add j) = some u := by
      intro j u hu
      have hne : xs ≠ [] := by intro e; subst e; simp [cellsOf] at hu
      obtain ⟨b, o, e, hb, hcl⟩ := ha hne
      injection e with e
      subst e
      rw [addr_add, World.cell?_alloc_lt _ _ _ (show b < w.heap.size by omega)]
      exact hcl j u hu
    have HC := hide hcells; clear hcells ha hc
    go_enter Try.func25, Try.ntmps25
    go_wp2_with (at_builtin; refine wpList_append_own _ rfl (.tmp 5) (.tmp 6) 24 rfl w.heap.size 28 i0 _ 3 24 Try.underlying24 Hi.out Hz0.out Hz1.out Hz2.out rfl (by decide) (.slice (some ⟨w.heap.size, 0, none⟩) 0 0) 0 [] rfl Hown0.out ad xs.length c (cellsOf xs) rfl (cellsOf_length xs) HC.out (cellsOf_one xs) (by unfold maxLen; omega) (by omega) (by simp) ?_; intro v' w1 hown hgrow hnil)
    go_ret
    refine ⟨v', rfl, by simpa using hown, by rw [ne_eq, hnil]; simp, ?_⟩
    refine ((Below.refl w.heap.size w).alloc (Nat.le_refl _) _).grown hgrow (by simp) ?_
    intro k hk
    have : w.heap.size = k := by simpa [Value.ownBlock] using hk
    omega
end Go.Proofs.Ytniofjeefphlmaa
