/- Pairs of pairs: plain facts. -/
import Derived.Test.YtafpbdmggnfdnaaAliveWalk
namespace Go.Proofs.Ytafpbdmggnfdnaa
open Go.RowKit
set_option linter.unusedVariables false

/-- Two variables and k times two pairs over the last two. -/
def gN : Nat → List Nd
  | 0 => [varNd, varNd]
  | k + 1 => gN k ++ [⟨3, ByteArray.empty, [2 * k, 2 * k]⟩] ++ [⟨3, ByteArray.empty, [2 * k + 1, 2 * k + 1]⟩]
theorem gN_len (k : Nat) : (gN k).length = 2 * k + 2 := by
  induction k with
  | zero => rfl
  | succ k ih => simp [gN, ih]; omega
theorem gN_var (k i : Nat) (hi : i < 2) : (gN k)[i]? = some varNd := by
  induction k with
  | zero => rcases i with _ | _ | i; rfl; rfl; omega
  | succ k ih =>
    unfold gN
    rw [List.append_assoc, List.getElem?_append_left (by rw [gN_len]; omega)]; exact ih
theorem gN_pair (k i : Nat) (hi : i < 2 * k) : (gN k)[i + 2]? = some ⟨3, ByteArray.empty, [i, i]⟩ := by
  induction k with
  | zero => omega
  | succ k ih =>
    unfold gN
    by_cases h : i < 2 * k
    · rw [List.append_assoc, List.getElem?_append_left (by rw [gN_len]; omega)]; exact ih h
    · rw [List.append_assoc, List.getElem?_append_right (by rw [gN_len]; omega), gN_len]
      rcases (show i = 2 * k ∨ i = 2 * k + 1 by omega) with rfl | rfl
      · rw [show 2 * k + 2 - (2 * k + 2) = 0 by omega]; rfl
      · rw [show 2 * k + 1 + 2 - (2 * k + 2) = 1 by omega]; rfl
theorem gN_at {k i : Nat} {p : Nd} (h : (gN k)[i]? = some p) : (i < 2 ∧ p = varNd) ∨ (2 ≤ i ∧ i - 2 < 2 * k ∧ p = ⟨3, ByteArray.empty, [i - 2, i - 2]⟩) := by
  have hl := (List.getElem?_eq_some_iff.1 h).1
  rw [gN_len] at hl
  by_cases hi : i < 2
  · rw [gN_var k i hi] at h; injection h with h; exact .inl ⟨hi, h.symm⟩
  · have := gN_pair k (i - 2) (by omega)
    rw [show i - 2 + 2 = i by omega, h] at this
    injection this with this
    exact .inr ⟨by omega, by omega, this⟩
/-- Sizes: 1, 3, 7, .. -/
theorem great_cnt {K : Nat} {c F : Nat → Nat} (hw : Wf (gN K)) (hcl : Closed (gN K) c) (hF : ∀ i, i < (gN K).length → Form (gN K) c (c i) (F (c i))) (hr : Resp (gN K).length c (fun i => i / 2)) :
    ∀ (k : Nat), k ≤ K → ∀ (x : Nat), x / 2 = k → ∀ T, Stands (gN K) c F [x] T → T.cnt = 2 ^ (k + 1) - 1 := by
  intro k
  induction k with
  | zero =>
    intro hk x hx T hT
    have hlen := gN_len K
    have Fx := hF x (by omega)
    cases hT with
    | var hp hkk hrr => cases hrr; rfl
    | @con _ _ A T' p hp hkk ha hrr =>
      exfalso
      have hl := (List.getElem?_eq_some_iff.1 hp).1
      have := hr _ _ hl (show x < (gN K).length by omega) Fx.cls
      rcases gN_at hp with ⟨h1, rfl⟩ | ⟨h1, h2, rfl⟩
      · exact hkk rfl
      · simp only at this; omega
  | succ k ih =>
    intro hk x hx T hT
    have hlen := gN_len K
    have hat := gN_pair K (x - 2) (by omega)
    rw [show x - 2 + 2 = x by omega] at hat
    obtain ⟨A, T', rfl, ha, hrr⟩ := Stands.con_of hw hcl hF (by omega) hat rfl (show (3 : Int) ≠ 1 by decide) hT
    cases hrr
    obtain ⟨B, C, rfl, hB, hC⟩ := Stands.split (is := [x - 2]) (js := [x - 2]) ha
    have h1 := ih (by omega) (x - 2) (by omega) B hB
    have h2 := ih (by omega) (x - 2) (by omega) C hC
    have hp : 0 < 2 ^ (k + 1) := Nat.pow_pos (by decide)
    simp only [Fo.cnt, Fo.cnt_app]
    rw [h1, h2, show 2 ^ (k + 1 + 1) = 2 ^ (k + 1) * 2 from Nat.pow_succ ..]
    omega
theorem great_tree {K k x : Nat} {c : Nat → Nat} (hw : Wf (gN K)) (hcl : Closed (gN K) c) (hr : Resp (gN K).length c (fun i => i / 2)) (hk : k ≤ K) (hx : x / 2 = k) {T : Fo} (hT : TreeOf (gN K) c [x] T) : T.cnt = 2 ^ (k + 1) - 1 := by
  obtain ⟨F, hF, hS⟩ := hT
  exact great_cnt hw hcl hF hr k hk x hx T hS
def gsz (k : Nat) : Nat := capped (2 ^ (k + 1) - 1)
theorem gsz_zero : gsz 0 = 1 := rfl
theorem gsz_succ (k : Nat) : gsz (k + 1) = if 301 < 2 * gsz k + 1 then 301 else 2 * gsz k + 1 := by
  unfold gsz capped
  have hp : 0 < 2 ^ (k + 1) := Nat.pow_pos (by decide)
  rw [show 2 ^ (k + 1 + 1) = 2 ^ (k + 1) * 2 from Nat.pow_succ ..]
  repeat' split
  all_goals omega
theorem gsz_le (k : Nat) : gsz k ≤ 301 := by unfold gsz capped; split <;> omega
theorem great_good (K : Nat) : Good (gN K) (fun i => i) (2 * K) (2 * K + 1) (fun i => i / 2) := by
  refine ⟨fun i j _ _ e => by have e' : i = j := e; rw [e'], by show 2 * K / 2 = (2 * K + 1) / 2; omega, ?_⟩
  intro i j p q hi hj hij hp hq
  simp only at hij
  rcases gN_at hi with ⟨_, rfl⟩ | ⟨h1, h2, rfl⟩
  · exact absurd rfl hp
  rcases gN_at hj with ⟨_, rfl⟩ | ⟨h3, h4, rfl⟩
  · exact absurd rfl hq
  refine ⟨⟨rfl, rfl, rfl⟩, fun k a b ha hb => ?_⟩
  rcases k with _ | _ | k <;> simp at ha hb <;> subst ha <;> subst hb <;> show (i - 2) / 2 = (j - 2) / 2 <;> omega
theorem great_acyc (K : Nat) : Acyc (gN K) (fun i => i / 2) := by
  refine ⟨fun i => i / 2, fun i j _ _ h => h, fun i p hi a ha => ?_⟩
  rcases gN_at hi with ⟨_, rfl⟩ | ⟨h1, h2, rfl⟩
  · simp [varNd] at ha
  · obtain rfl : a = i - 2 := by simpa using ha
    show (i - 2) / 2 < i / 2
    omega
theorem great_ok {K : Nat} {err : Int} {c' : Nat → Nat} (h : UniSaid (gN K) (fun i => i) ((2 * K : Nat) : Int) ((2 * K + 1 : Nat) : Int) err c') : err = 0 ∧ c' (2 * K) = c' (2 * K + 1) ∧ Resp (gN K).length c' (fun i => i / 2) := by
  rcases h with ⟨h, _⟩ | ⟨_, ⟨h0, h⟩ | ⟨_, _, h⟩ | ⟨h1, h2, cl, hl, hn⟩⟩
  · have hlen := gN_len K
    simp [allIn] at h; omega
  · exact ⟨h0, h.good.ab, h.least _ (great_good K)⟩
  · exact absurd (great_good K) (h _)
  · exact absurd ((great_acyc K).of (hl.least _ (great_good K))) hn
theorem great_no (K : Nat) : ¬ AlikeIn (gN K) (fun i => i) (2 * K) (2 * K + 1) := by
  rintro ⟨e, he, hs⟩
  have hd : ∀ k, k ≤ K → e (2 * (K - k)) = e (2 * (K - k) + 1) := by
    intro k
    induction k with
    | zero => intro _; exact he.ab
    | succ k ih =>
      intro hk
      have h1 := ih (by omega)
      have a1 := gN_pair K (2 * (K - (k + 1))) (by omega)
      have a2 := gN_pair K (2 * (K - (k + 1)) + 1) (by omega)
      rw [show 2 * (K - (k + 1)) + 2 = 2 * (K - k) by omega] at a1
      rw [show 2 * (K - (k + 1)) + 1 + 2 = 2 * (K - k) + 1 by omega] at a2
      exact (he.closed _ _ _ _ a1 a2 h1 (show (3 : Int) ≠ 1 by decide) (show (3 : Int) ≠ 1 by decide)).2 0 _ _ rfl rfl
  have h0 := hd K (Nat.le_refl _)
  rw [show K - K = 0 by omega] at h0
  have hlen := gN_len K
  have := hs 0 1 (by omega) (by omega) (fun j p hp hj => by
    have : j = 0 := hj
    subst this
    rw [gN_var K 0 (by decide)] at hp; injection hp with hp; subst hp; rfl) h0
  exact absurd this (by decide)
theorem great_yes {K : Nat} {c : Nat → Nat} (hcl : Closed (gN K) c) (h : c (2 * K) = c (2 * K + 1)) : AlikeIn (gN K) c (2 * K) (2 * K + 1) := ⟨c, ⟨fun _ _ _ _ e => e, h, hcl⟩, Still.refl _ _⟩
end Go.Proofs.Ytafpbdmggnfdnaa
